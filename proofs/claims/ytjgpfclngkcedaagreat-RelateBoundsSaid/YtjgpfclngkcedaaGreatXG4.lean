/- Texts of this claim, one after the other: Code, T0, T1, T2, T3, T4, T5, T6, U1, U2v, U3v, U4v, U5v. -/
import Derived.Test.YtjgpfclngkcedaaGreatProg
import Derived.Test.YtjgpfclngkcedaaGreatXG3
import Derived.KernelRfl

set_option linter.unusedSimpArgs false
set_option linter.unusedVariables false
namespace Go.Proofs.YtjgpfclngkcedaaGreat
open Go Go.Abs Go.Abs.C2 Go.Abs.Ins Go.Abs.Opd Go.Abs.TK Go.Abs.MK
def cO (d:Nat) (i:Ins):Op2:=Op2.mk (some d) none i
def cG (d g:Nat) (b:Bool) (i:Ins):Op2:=Op2.mk (some d) (some (g,b)) i
def cN (k:Int):Opd:=Opd.c (AV.int IntKind.i64 k)
def cM (n:Nat):Ins:=Ins.mov (Opd.t n)
def cD (n:Nat):Ins:=Ins.ld1 (Opd.t n)
def cF (n:Nat):Opd:=Opd.c (AV.func n [])
def cB (o:BinOp) (x y:Opd):Ins:=Ins.bin o false false x y
def av:Opd:=Opd.c (AV.bool false)
def aF:Opd:=Opd.c (AV.bool true)
theorem follows:Tryz.prog.follows .mixedOrders=true:=by rfl
def b3:F2:=(F2.mk 65 [RV.t 4] ((ops 0 [cO 2 (box (t 0)),cO 3 (box (t 1)),cO 4 (mov av)]).seq (((ops 0 [cO 15 (ldn 4 (t 2)),cO 16 (ldn 4 (t 3)),cO 17 (bldS 4 2 [AV.int IntKind.i64 (0),AV.int IntKind.i64 (0),AV.int IntKind.i64 (0),AV.esl] [(0,4,t 15),(4,4,t 16)]),cO 18 (call (cF 11) [t 17]),cO 19 (un UnOp.not (t 18))]).seq (C2.cond (t 19) ((ops 0 [cO 20 (call (cF 12) []),cO 4 (cM 20)]).seq ret) skip)).seq ((ops 0 [cO 22 (ldn 4 (t 2)),cO 23 (ldn 4 (t 3)),cO 24 (call (cF 13) [t 22,t 23]),cO 21 (cM 24),cO 25 (ext (t 21) 0),cO 26 (ext (t 21) 1),cO 27 (ext (t 21) 2),cO 28 (ext (t 21) 3),cO 29 (ext (t 21) 4),cO 5 (cM 25),cO 6 (cM 26),cO 7 (cM 27),cO 8 (cM 28),cO 9 (cM 29)]).seq ((ops 0 [cO 31 (ldn 4 (t 2)),cO 32 (ldn 4 (t 3)),cO 33 (call (cF 14) [t 31,t 32]),cO 30 (cM 33),cO 34 (ext (t 30) 0),cO 35 (ext (t 30) 1),cO 36 (ext (t 30) 2),cO 37 (ext (t 30) 3),cO 38 (ext (t 30) 4),cO 10 (cM 34),cO 11 (cM 35),cO 12 (cM 36),cO 13 (cM 37),cO 14 (cM 38)]).seq ((ops 0 [cO 39 (call (cF 12) []),cO 40 (cM 39),cG 41 40 true (cM 5),cG 42 40 true (cM 10),cG 43 40 true (call (cF 15) [t 41,t 42]),cO 44 (pick (t 40) (t 43) av),cO 45 (cM 44),cG 46 45 true (cM 6),cG 47 45 true (cM 11),cG 48 45 true (cB .eql (t 46) (t 47)),cO 49 (pick (t 45) (t 48) av),cO 50 (cM 49),cG 51 50 true (cM 7),cG 52 50 true (cM 12),cG 53 50 true (call (cF 15) [t 51,t 52]),cO 54 (pick (t 50) (t 53) av),cO 55 (cM 54),cG 56 55 true (cM 8),cG 57 55 true (cM 13),cG 58 55 true (bin BinOp.eql true false (t 56) (t 57)),cO 59 (pick (t 55) (t 58) av),cO 60 (cM 59),cG 61 60 true (cM 9),cG 62 60 true (cM 14),cG 63 60 true (cB .eql (t 61) (t 62)),cO 64 (pick (t 60) (t 63) av),cO 4 (cM 64)]).seq ret))))))
def b7:F2:=(F2.mk 212 [RV.t 4] ((ops 0 [cO 2 (box (t 0)),cO 3 (box (t 1)),cO 4 (mov av)]).seq (((ops 0 [cO 39 (ldn 4 (t 2)),cO 40 (ldn 4 (t 3)),cO 41 (bldS 4 2 [AV.int IntKind.i64 (0),AV.int IntKind.i64 (0),AV.int IntKind.i64 (0),AV.esl] [(0,4,t 39),(4,4,t 40)]),cO 42 (call (cF 28) [t 41]),cO 43 (un UnOp.not (t 42))]).seq (C2.cond (t 43) ((ops 0 [cO 44 (call (cF 12) []),cO 4 (cM 44)]).seq ret) skip)).seq ((ops 0 [cO 46 (ldn 4 (t 2)),cO 47 (ldn 4 (t 3)),cO 48 (call (cF 18) [t 46,t 47]),cO 45 (cM 48),cO 49 (ext (t 45) 0),cO 50 (ext (t 45) 1),cO 5 (alloc (AV.agg [AV.int IntKind.i64 (0),AV.int IntKind.i64 (0),AV.int IntKind.i64 (0),AV.esl])),Op2.mk none none (Ins.st 4 (t 5) (t 49)),cO 6 (cM 50)]).seq ((ops 0 [cO 52 (ldn 4 (t 3)),cO 53 (ldn 4 (t 2)),cO 54 (call (cF 18) [t 52,t 53]),cO 51 (cM 54),cO 55 (ext (t 51) 0),cO 56 (ext (t 51) 1),cO 7 (alloc (AV.agg [AV.int IntKind.i64 (0),AV.int IntKind.i64 (0),AV.int IntKind.i64 (0),AV.esl])),Op2.mk none none (Ins.st 4 (t 7) (t 55)),cO 8 (cM 56)]).seq ((ops 0 [cO 58 (ldn 4 (t 2)),cO 59 (ldn 4 (t 3)),cO 60 (call (cF 16) [t 58,t 59]),cO 57 (cM 60),cO 61 (ext (t 57) 0),cO 62 (ext (t 57) 1),cO 9 (alloc (AV.agg [AV.int IntKind.i64 (0),AV.int IntKind.i64 (0),AV.int IntKind.i64 (0),AV.esl])),Op2.mk none none (Ins.st 4 (t 9) (t 61)),cO 10 (cM 62)]).seq ((ops 0 [cO 64 (ldn 4 (t 3)),cO 65 (ldn 4 (t 2)),cO 66 (call (cF 16) [t 64,t 65]),cO 63 (cM 66),cO 67 (ext (t 63) 0),cO 68 (ext (t 63) 1),cO 11 (alloc (AV.agg [AV.int IntKind.i64 (0),AV.int IntKind.i64 (0),AV.int IntKind.i64 (0),AV.esl])),Op2.mk none none (Ins.st 4 (t 11) (t 67)),cO 12 (cM 68)]).seq (((ops 0 [cO 69 (cM 6),cO 70 (cB .neq (t 69) (cN 0)),cO 71 (cM 70),cG 72 71 false (cM 8),cG 73 71 false (cB .neq (t 72) (cN 0)),cO 74 (pick (t 71) aF (t 73)),cO 75 (cM 74),cG 76 75 false (ldn 4 (t 5)),cG 77 75 false (ldn 4 (t 7)),cG 78 75 false (call (cF 20) [t 76,t 77]),cG 79 75 false (un UnOp.not (t 78)),cO 80 (pick (t 75) aF (t 79)),cO 81 (cM 80),cG 82 81 false (ldn 4 (t 5)),cG 83 81 false (call (cF 29) [t 82]),cG 84 81 false (cB .neq (t 83) (cN 0)),cO 85 (pick (t 81) aF (t 84)),cO 86 (cM 85),cG 87 86 false (cM 10),cG 88 86 false (cM 12),cG 89 86 false (cB .neq (t 87) (t 88)),cO 90 (pick (t 86) aF (t 89)),cO 91 (cM 90),cG 92 91 false (cM 10),cG 93 91 false (cB .neq (t 92) (cN 0)),cG 94 91 false (cM 93),cG 95 94 true (cM 10),cG 96 94 true (cB .neq (t 95) (cN 16)),cG 97 91 false (pick (t 94) (t 96) av),cO 98 (pick (t 91) aF (t 97)),cO 99 (cM 98),cG 100 99 false (ldn 4 (t 9)),cG 101 99 false (ldn 4 (t 11)),cG 102 99 false (call (cF 20) [t 100,t 101]),cG 103 99 false (un UnOp.not (t 102)),cO 104 (pick (t 99) aF (t 103))]).seq (C2.cond (t 104) ((ops 0 [cO 4 (mov av)]).seq ret) skip)).seq (((ops 0 [cO 105 (cM 10),cO 106 (cB .eql (t 105) (cN 0)),cO 107 (cM 106),cG 108 107 true (ldn 4 (t 9)),cG 109 107 true (call (cF 29) [t 108]),cG 110 107 true (cB .neq (t 109) (cN 0)),cO 111 (pick (t 107) (t 110) av)]).seq (C2.cond (t 111) ((ops 0 [cO 4 (mov av)]).seq ret) skip)).seq (((ops 0 [cO 112 (ldn 4 (t 2)),cO 113 (ldn 4 (t 3)),cO 114 (call (cF 30) [t 112,t 113]),cO 115 (un UnOp.not (t 114))]).seq (C2.cond (t 115) ((ops 0 [cO 116 (call (cF 12) []),cO 4 (cM 116)]).seq ret) skip)).seq (((ops 0 [cO 117 (ldn 4 (t 2)),cO 118 (ldn 4 (t 3)),cO 119 (bldS 4 2 [AV.int IntKind.i64 (0),AV.int IntKind.i64 (0),AV.int IntKind.i64 (0),AV.esl] [(0,4,t 117),(4,4,t 118)]),cO 120 (lenS (t 119)),cO 121 (mov (cN 0))]).seq (block 0 ((ops 0 [cO 122 (cB .lss (t 121) (t 120))]).seq ((C2.cond (t 122) skip (exit 0)).seq ((block 1 ((ops 0 [cO 123 (ixaS 4 (t 119) (t 121)),cO 124 (ldn 4 (t 123)),cO 14 (alloc (AV.agg [AV.int IntKind.i64 (0),AV.int IntKind.i64 (0),AV.int IntKind.i64 (0),AV.esl])),Op2.mk none none (Ins.st 4 (t 14) (t 124))]).seq (((ops 0 [cO 126 (ldn 4 (t 14)),cO 127 (ldn 4 (t 5)),cO 128 (call (cF 13) [t 126,t 127]),cO 125 (cM 128),cO 129 (ext (t 125) 0),cO 130 (ext (t 125) 1),cO 131 (ext (t 125) 2),cO 132 (ext (t 125) 3),cO 133 (ext (t 125) 4),cO 15 (cM 129),cO 16 (cM 130),cO 17 (cM 131),cO 18 (cM 132),cO 19 (cM 133)]).seq ((ops 0 [cO 134 (cM 19),cO 135 (cB .neq (t 134) (cN 0)),cO 136 (cM 135),cG 137 136 false (cM 18),cG 138 136 false (un UnOp.not (t 137)),cO 139 (pick (t 136) aF (t 138))]).seq (C2.cond (t 139) ((ops 0 [cO 4 (mov av)]).seq ret) skip))).seq ((ops 0 [cO 141 (ldn 4 (t 9)),cO 142 (ldn 4 (t 14)),cO 143 (call (cF 13) [t 141,t 142]),cO 140 (cM 143),cO 144 (ext (t 140) 0),cO 145 (ext (t 140) 1),cO 146 (ext (t 140) 2),cO 147 (ext (t 140) 3),cO 148 (ext (t 140) 4),cO 20 (cM 144),cO 21 (cM 145),cO 22 (cM 146),cO 23 (cM 147),cO 24 (cM 148)]).seq ((ops 0 [cO 149 (cM 10),cO 150 (cB .eql (t 149) (cN 0)),cO 151 (cM 150),cG 152 151 true (cM 24),cG 153 151 true (cB .neq (t 152) (cN 0)),cG 154 151 true (cM 153),cG 155 154 false (cM 23),cG 156 154 false (un UnOp.not (t 155)),cG 157 151 true (pick (t 154) aF (t 156)),cO 158 (pick (t 151) (t 157) av)]).seq (C2.cond (t 158) ((ops 0 [cO 4 (mov av)]).seq ret) skip)))))).seq (ops 0 [cO 159 (cB .add (t 121) (cN 1)),cO 121 (cM 159)])))).loop)).seq ((ops 0 [cO 161 (ldn 4 (t 2)),cO 162 (ldn 4 (t 2)),cO 163 (call (cF 18) [t 161,t 162]),cO 160 (cM 163),cO 164 (ext (t 160) 0),cO 165 (ext (t 160) 1),cO 25 (alloc (AV.agg [AV.int IntKind.i64 (0),AV.int IntKind.i64 (0),AV.int IntKind.i64 (0),AV.esl])),Op2.mk none none (Ins.st 4 (t 25) (t 164)),cO 26 (cM 165)]).seq ((ops 0 [cO 167 (ldn 4 (t 2)),cO 168 (ldn 4 (t 2)),cO 169 (call (cF 16) [t 167,t 168]),cO 166 (cM 169),cO 170 (ext (t 166) 0),cO 171 (ext (t 166) 1),cO 27 (alloc (AV.agg [AV.int IntKind.i64 (0),AV.int IntKind.i64 (0),AV.int IntKind.i64 (0),AV.esl])),Op2.mk none none (Ins.st 4 (t 27) (t 170)),cO 28 (cM 171)]).seq ((ops 0 [cO 173 (ldn 4 (t 2)),cO 174 (ldn 4 (t 25)),cO 175 (call (cF 13) [t 173,t 174]),cO 172 (cM 175),cO 176 (ext (t 172) 0),cO 177 (ext (t 172) 1),cO 178 (ext (t 172) 2),cO 179 (ext (t 172) 3),cO 180 (ext (t 172) 4),cO 29 (cM 176),cO 30 (cM 177),cO 31 (cM 178),cO 32 (cM 179),cO 33 (cM 180)]).seq ((ops 0 [cO 182 (ldn 4 (t 25)),cO 183 (ldn 4 (t 2)),cO 184 (call (cF 13) [t 182,t 183]),cO 181 (cM 184),cO 185 (ext (t 181) 0),cO 186 (ext (t 181) 1),cO 187 (ext (t 181) 2),cO 188 (ext (t 181) 3),cO 189 (ext (t 181) 4),cO 34 (cM 185),cO 35 (cM 186),cO 36 (cM 187),cO 37 (cM 188),cO 38 (cM 189)]).seq ((ops 0 [cO 190 (cM 26),cO 191 (cM 28),cO 192 (cB .add (t 190) (t 191)),cO 193 (cM 33),cO 194 (cB .add (t 192) (t 193)),cO 195 (cM 38),cO 196 (cB .add (t 194) (t 195)),cO 197 (cB .eql (t 196) (cN 0)),cO 198 (cM 197),cG 199 198 true (cM 32),cO 200 (pick (t 198) (t 199) av),cO 201 (cM 200),cG 202 201 true (cM 37),cO 203 (pick (t 201) (t 202) av),cO 204 (cM 203),cG 205 204 true (ldn 4 (t 25)),cG 206 204 true (ldn 4 (t 27)),cG 207 204 true (call (cF 20) [t 205,t 206]),cO 208 (pick (t 204) (t 207) av),cO 209 (cM 208),cG 210 209 true (call (cF 12) []),cO 211 (pick (t 209) (t 210) av),cO 4 (cM 211)]).seq ret))))))))))))))))
theorem is7:Is Tryz.prog 7 b7:=Is.mk' Tryz.func7 (by kernel_rfl)
def b12:F2:=(F2.mk 175 [RV.t 0] ((ops 0 [cO 0 (mov av)]).seq ((ops 0 [cO 21 (call (cF 39) []),cO 20 (cM 21),cO 22 (ext (t 20) 0),cO 23 (ext (t 20) 1),cO 1 (alloc (AV.agg [AV.int IntKind.i64 (0),AV.int IntKind.i64 (0),AV.int IntKind.i64 (0),AV.esl])),cO 2 (alloc (AV.agg [AV.int IntKind.i64 (0),AV.int IntKind.i64 (0),AV.int IntKind.i64 (0),AV.esl])),Op2.mk none none (Ins.st 4 (t 1) (t 22)),Op2.mk none none (Ins.st 4 (t 2) (t 23))]).seq ((ops 0 [cO 25 (ldn 4 (t 1)),cO 26 (ldn 4 (t 2)),cO 27 (call (cF 13) [t 25,t 26]),cO 24 (cM 27),cO 28 (ext (t 24) 0),cO 29 (ext (t 24) 1),cO 30 (ext (t 24) 2),cO 31 (ext (t 24) 3),cO 32 (ext (t 24) 4),cO 3 (cM 28),cO 4 (cM 29),cO 5 (cM 30),cO 6 (cM 31),cO 7 (cM 32)]).seq ((ops 0 [cO 34 (ldn 4 (t 2)),cO 35 (ldn 4 (t 1)),cO 36 (call (cF 13) [t 34,t 35]),cO 33 (cM 36),cO 37 (ext (t 33) 0),cO 38 (ext (t 33) 1),cO 39 (ext (t 33) 2),cO 40 (ext (t 33) 3),cO 41 (ext (t 33) 4),cO 8 (cM 37),cO 9 (cM 38),cO 10 (cM 39),cO 11 (cM 40),cO 12 (cM 41)]).seq ((ops 0 [cO 43 (ldn 4 (t 1)),cO 44 (ldn 4 (t 2)),cO 45 (call (cF 16) [t 43,t 44]),cO 42 (cM 45),cO 46 (ext (t 42) 0),cO 47 (ext (t 42) 1),cO 13 (alloc (AV.agg [AV.int IntKind.i64 (0),AV.int IntKind.i64 (0),AV.int IntKind.i64 (0),AV.esl])),Op2.mk none none (Ins.st 4 (t 13) (t 46)),cO 14 (cM 47)]).seq ((ops 0 [cO 49 (ldn 4 (t 1)),cO 50 (ldn 4 (t 2)),cO 51 (call (cF 18) [t 49,t 50]),cO 48 (cM 51),cO 52 (ext (t 48) 0),cO 53 (ext (t 48) 1),cO 15 (alloc (AV.agg [AV.int IntKind.i64 (0),AV.int IntKind.i64 (0),AV.int IntKind.i64 (0),AV.esl])),Op2.mk none none (Ins.st 4 (t 15) (t 52)),cO 16 (cM 53)]).seq (((ops 0 [cO 54 (cM 7),cO 55 (cM 12),cO 56 (cB .add (t 54) (t 55)),cO 57 (cM 14),cO 58 (cB .add (t 56) (t 57)),cO 59 (cM 16),cO 60 (cB .add (t 58) (t 59)),cO 61 (cB .neq (t 60) (cN 0)),cO 62 (cM 61),cG 63 62 false (cM 6),cG 64 62 false (un UnOp.not (t 63)),cO 65 (pick (t 62) aF (t 64)),cO 66 (cM 65),cG 67 66 false (cM 11),cO 68 (pick (t 66) aF (t 67)),cO 69 (cM 68),cG 70 69 false (cM 8),cG 71 69 false (bldS 1 2 [AV.int IntKind.i64 (0)] [(0,1,cN ((0))),(1,1,cN ((0)))]),cG 72 69 false (call (cF 15) [t 70,t 71]),cG 73 69 false (un UnOp.not (t 72)),cO 74 (pick (t 69) aF (t 73)),cO 75 (cM 74),cG 76 75 false (cM 9),cG 77 75 false (cB .neq (t 76) (cN 0)),cO 78 (pick (t 75) aF (t 77)),cO 79 (cM 78),cG 80 79 false (cM 10),cG 81 79 false (bldS 1 2 [AV.int IntKind.i64 (0)] [(0,1,cN ((0))),(1,1,cN ((1)))]),cG 82 79 false (call (cF 15) [t 80,t 81]),cG 83 79 false (un UnOp.not (t 82)),cO 84 (pick (t 79) aF (t 83)),cO 85 (cM 84),cG 86 85 false (ldn 4 (t 13)),cG 87 85 false (ldn 4 (t 1)),cG 88 85 false (call (cF 20) [t 86,t 87]),cG 89 85 false (un UnOp.not (t 88)),cO 90 (pick (t 85) aF (t 89)),cO 91 (cM 90),cG 92 91 false (ldn 4 (t 15)),cG 93 91 false (ldn 4 (t 2)),cG 94 91 false (call (cF 20) [t 92,t 93]),cG 95 91 false (un UnOp.not (t 94)),cO 96 (pick (t 91) aF (t 95))]).seq (C2.cond (t 96) ((ops 0 [cO 0 (mov av)]).seq ret) skip)).seq ((ops 0 [cO 98 (ldn 4 (t 1)),cO 99 (ldn 4 (t 1)),cO 100 (call (cF 21) [t 98,t 99]),cO 97 (cM 100),cO 101 (ext (t 97) 0),cO 102 (ext (t 97) 1),cO 17 (alloc (AV.agg [AV.int IntKind.i64 (0),AV.int IntKind.i64 (0),AV.int IntKind.i64 (0),AV.esl])),Op2.mk none none (Ins.st 4 (t 17) (t 101)),cO 7 (cM 102)]).seq ((ops 0 [cO 104 (ldn 4 (t 1)),cO 105 (bldS 1 2 [AV.int IntKind.i64 (0)] [(0,1,cN ((0))),(1,1,cN ((0)))]),cO 106 (call (cF 23) [t 104,cN ((1)),t 105]),cO 103 (cM 106),cO 107 (ext (t 103) 0),cO 108 (ext (t 103) 1),cO 18 (alloc (AV.agg [AV.int IntKind.i64 (0),AV.int IntKind.i64 (0),AV.int IntKind.i64 (0),AV.esl])),Op2.mk none none (Ins.st 4 (t 18) (t 107)),cO 12 (cM 108)]).seq ((ops 0 [cO 110 (ldn 4 (t 1)),cO 111 (call (cF 25) [t 110]),cO 109 (cM 111),cO 112 (ext (t 109) 0),cO 113 (ext (t 109) 1),cO 19 (cM 112),cO 14 (cM 113)]).seq (((ops 0 [cO 114 (cM 7),cO 115 (cM 12),cO 116 (cB .add (t 114) (t 115)),cO 117 (cM 14),cO 118 (cB .add (t 116) (t 117)),cO 119 (cB .neq (t 118) (cN 0)),cO 120 (cM 119),cG 121 120 false (fa 2 (t 17)),cG 122 120 false (cD 121),cG 123 120 false (cB .neq (t 122) (cN 4)),cO 124 (pick (t 120) aF (t 123)),cO 125 (cM 124),cG 126 125 false (fa 3 (t 17)),cG 127 125 false (cD 126),cG 128 125 false (lenS (t 127)),cG 129 125 false (cB .neq (t 128) (cN 4)),cO 130 (pick (t 125) aF (t 129)),cO 131 (cM 130),cG 132 131 false (fa 3 (t 18)),cG 133 131 false (cD 132),cG 134 131 false (lenS (t 133)),cG 135 131 false (cB .neq (t 134) (cN 4)),cO 136 (pick (t 131) aF (t 135))]).seq (C2.cond (t 136) ((ops 0 [cO 0 (mov av)]).seq ret) skip)).seq ((ops 0 [cO 137 (fa 3 (t 17)),cO 138 (cD 137),cO 139 (ixaS 3 (t 138) (cN 0)),cO 140 (fa 1 (t 139)),cO 141 (cD 140),cO 142 (bldS 1 2 [AV.int IntKind.i64 (0)] [(0,1,cN ((0))),(1,1,cN ((0)))]),cO 143 (bldS 1 1 [AV.esl] [(0,1,t 142)]),cO 144 (call (cF 27) [t 141,t 143]),cO 145 (cM 144),cG 146 145 true (fa 3 (t 17)),cG 147 145 true (cD 146),cG 148 145 true (ixaS 3 (t 147) (cN 1)),cG 149 145 true (fa 1 (t 148)),cG 150 145 true (cD 149),cG 151 145 true (bldS 1 2 [AV.int IntKind.i64 (0)] [(0,1,cN ((0))),(1,1,cN ((0)))]),cG 152 145 true (bldS 1 2 [AV.int IntKind.i64 (0)] [(0,1,cN ((1))),(1,1,cN ((1)))]),cG 153 145 true (bldS 1 2 [AV.int IntKind.i64 (0)] [(0,1,cN ((2))),(1,1,cN ((2)))]),cG 154 145 true (bldS 1 2 [AV.int IntKind.i64 (0)] [(0,1,cN ((3))),(1,1,cN ((3)))]),cG 155 145 true (bldS 1 4 [AV.esl] [(0,1,t 151),(1,1,t 152),(2,1,t 153),(3,1,t 154)]),cG 156 145 true (call (cF 27) [t 150,t 155]),cO 157 (pick (t 145) (t 156) av),cO 158 (cM 157),cG 159 158 true (fa 3 (t 18)),cG 160 158 true (cD 159),cG 161 158 true (ixaS 3 (t 160) (cN 1)),cG 162 158 true (fa 1 (t 161)),cG 163 158 true (cD 162),cG 164 158 true (bldS 1 2 [AV.int IntKind.i64 (0)] [(0,1,cN ((0))),(1,1,cN ((0)))]),cG 165 158 true (bldS 1 1 [AV.esl] [(0,1,t 164)]),cG 166 158 true (call (cF 27) [t 163,t 165]),cO 167 (pick (t 158) (t 166) av),cO 168 (cM 167),cG 169 168 true (cM 19),cG 170 168 true (bldS 1 2 [AV.int IntKind.i64 (0)] [(0,1,cN ((0))),(1,1,cN ((1)))]),cG 171 168 true (bldS 1 2 [AV.int IntKind.i64 (0)] [(0,1,cN ((1))),(1,1,cN ((0)))]),cG 172 168 true (bldS 1 2 [AV.esl] [(0,1,t 170),(1,1,t 171)]),cG 173 168 true (call (cF 27) [t 169,t 172]),cO 174 (pick (t 168) (t 173) av),cO 0 (cM 174)]).seq ret)))))))))))))
theorem B5:Is Tryz.prog 12 b12:=Is.mk' Tryz.func12 (by kernel_rfl)
def b13:F2:=(F2.mk 72 [RV.t 4,RV.t 5,RV.t 6,RV.t 7,RV.t 8] ((ops 0 [cO 2 (box (t 0)),cO 3 (box (t 1)),cO 4 (mov (c AV.esl)),cO 5 (mov (cN 0)),cO 6 (mov (c AV.esl)),cO 7 (mov av),cO 8 (mov (cN 0))]).seq (((ops 0 [cO 17 (ldn 4 (t 2)),cO 18 (ldn 4 (t 3)),cO 19 (call (cF 40) [t 17,t 18]),cO 9 (cM 19)]).seq ((ops 0 [cO 20 (cM 9),cO 21 (cB .neq (t 20) (cN 0))]).seq (C2.cond (t 21) ((ops 0 [cO 22 (cM 9),cO 4 (mov (c AV.esl)),cO 5 (mov (cN 0)),cO 6 (mov (c AV.esl)),cO 7 (mov av),cO 8 (cM 22)]).seq ret) skip))).seq (((ops 0 [cO 23 (fa 3 (t 3)),cO 24 (cD 23),cO 25 (lenS (t 24)),cO 26 (mov (cN 0))]).seq (block 0 ((ops 0 [cO 27 (cB .lss (t 26) (t 25))]).seq ((C2.cond (t 27) skip (exit 0)).seq ((block 1 ((ops 0 [cO 28 (ixaS 3 (t 24) (t 26)),cO 29 (ldn 3 (t 28)),cO 11 (alloc (AV.agg [AV.esl,AV.esl,AV.esl])),Op2.mk none none (Ins.st 3 (t 11) (t 29))]).seq ((ops 0 [cO 31 (ldn 4 (t 2)),cO 32 (fa 0 (t 11)),cO 33 (cD 32),cO 34 (call (cF 41) [t 31,t 33]),cO 30 (cM 34),cO 35 (ext (t 30) 0),cO 36 (ext (t 30) 1),cO 12 (alloc (AV.agg [AV.esl,AV.esl,AV.esl])),Op2.mk none none (Ins.st 3 (t 12) (t 35)),cO 13 (cM 36)]).seq (((ops 0 [cO 37 (cM 13),cO 38 (un UnOp.not (t 37))]).seq (C2.cond (t 38) ((ops 0 [cO 39 (fa 0 (t 11)),cO 40 (cD 39),cO 41 (call (cF 42) [t 40]),cO 4 (cM 41),cO 5 (mov (cN 0)),cO 6 (mov (c AV.esl)),cO 7 (mov av),cO 8 (mov (cN 0))]).seq ret) skip)).seq ((ops 0 [cO 42 (fa 0 (t 2)),cO 43 (cD 42),cO 44 (cB .shl (cN 1) (t 43)),cO 45 (mov (cN 0))]).seq (block 2 ((ops 0 [cO 46 (cB .lss (t 45) (t 44))]).seq ((C2.cond (t 46) skip (exit 2)).seq ((block 3 ((ops 0 [cO 47 (cM 45),cO 14 (cM 47)]).seq ((ops 0 [cO 48 (ldn 3 (t 12)),cO 49 (cM 14),cO 50 (call (cF 43) [t 48,t 49]),cO 51 (lenS (t 50)),cO 52 (mov (cN 0))]).seq (block 4 ((ops 0 [cO 53 (cB .lss (t 52) (t 51))]).seq ((C2.cond (t 53) skip (exit 4)).seq ((block 5 ((ops 0 [cO 54 (ixaS 1 (t 50) (t 52)),cO 55 (cD 54),cO 16 (cM 55)]).seq ((ops 0 [cO 56 (ldn 3 (t 11)),cO 57 (cM 14),cO 58 (call (cF 43) [t 56,t 57]),cO 59 (cM 14),cO 60 (cM 16),cO 61 (call (cF 44) [t 58,t 59,t 60]),cO 62 (un UnOp.not (t 61))]).seq (C2.cond (t 62) ((ops 0 [cO 63 (fa 0 (t 11)),cO 64 (cD 63),cO 65 (call (cF 42) [t 64]),cO 66 (cM 14),cO 67 (cM 16),cO 68 (call (cF 42) [t 67]),cO 4 (cM 65),cO 5 (cM 66),cO 6 (cM 68),cO 7 (mov av),cO 8 (mov (cN 0))]).seq ret) skip)))).seq (ops 0 [cO 69 (cB .add (t 52) (cN 1)),cO 52 (cM 69)])))).loop)))).seq (ops 0 [cO 70 (cB .add (t 45) (cN 1)),cO 45 (cM 70)])))).loop)))))).seq (ops 0 [cO 71 (cB .add (t 26) (cN 1)),cO 26 (cM 71)])))).loop)).seq ((ops 0 [cO 4 (mov (c AV.esl)),cO 5 (mov (cN 0)),cO 6 (mov (c AV.esl)),cO 7 (mov aF),cO 8 (mov (cN 0))]).seq ret)))))
theorem BK:Is Tryz.prog 13 b13:=Is.mk' Tryz.func13 (by kernel_rfl)
def b15:F2:=(F2.mk 26 [RV.t 4] ((ops 0 [cO 4 (mov av)]).seq (((ops 0 [cO 6 (cM 0),cO 7 (lenS (t 6)),cO 8 (cM 1),cO 9 (lenS (t 8)),cO 10 (cB .neq (t 7) (t 9))]).seq (C2.cond (t 10) ((ops 0 [cO 4 (mov av)]).seq ret) skip)).seq (((ops 0 [cO 11 (cM 0),cO 12 (lenS (t 11)),cO 13 (mov (cN 0))]).seq (block 0 ((ops 0 [cO 14 (cB .lss (t 13) (t 12))]).seq ((C2.cond (t 14) skip (exit 0)).seq ((block 1 ((ops 0 [cO 15 (cM 13),cO 5 (cM 15)]).seq ((ops 1 [cO 16 (cM 0),cO 17 (cM 5),cO 18 (ixaS 1 (t 16) (t 17)),cO 19 (cD 18),cO 20 (cM 1),cO 21 (cM 5),cO 22 (ixaS 1 (t 20) (t 21)),cO 23 (cD 22),cO 24 (cB .neq (t 19) (t 23))]).seq (C2.cond (t 24) ((ops 0 [cO 4 (mov av)]).seq ret) skip)))).seq (ops 0 [cO 25 (cB .add (t 13) (cN 1)),cO 13 (cM 25)])))).loop)).seq ((ops 0 [cO 4 (mov aF)]).seq ret)))))
theorem Ar:Is Tryz.prog 15 b15:=Is.mk' Tryz.func15 (by kernel_rfl)
def b16:F2:=(F2.mk 46 [RV.cn 4 4,RV.t 5] ((ops 0 [cO 2 (box (t 0)),cO 3 (box (t 1)),cO 4 (alloc (AV.agg [AV.int IntKind.i64 (0),AV.int IntKind.i64 (0),AV.int IntKind.i64 (0),AV.esl])),cO 5 (mov (cN 0))]).seq (((ops 0 [cO 10 (ldn 4 (t 2)),cO 11 (ldn 4 (t 3)),cO 12 (call (cF 40) [t 10,t 11]),cO 6 (cM 12)]).seq ((ops 0 [cO 13 (cM 6),cO 14 (cB .neq (t 13) (cN 0))]).seq (C2.cond (t 14) ((ops 0 [cO 15 (bld [AV.int IntKind.i64 (0),AV.int IntKind.i64 (0),AV.int IntKind.i64 (0),AV.esl] []),cO 16 (cM 6),Op2.mk none none (Ins.st 4 (t 4) (t 15)),cO 5 (cM 16)]).seq ret) skip))).seq ((ops 0 [cO 18 (ldn 4 (t 2)),cO 19 (ldn 4 (t 3)),cO 20 (call (cF 47) [t 18,t 19,c (AV.func 48 [])]),cO 17 (cM 20),cO 21 (ext (t 17) 0),cO 22 (ext (t 17) 1),cO 23 (ext (t 17) 2),cO 7 (cM 21),cO 8 (cM 22),cO 9 (cM 23)]).seq (((ops 0 [cO 24 (cM 7),cO 25 (lenS (t 24)),cO 26 (cB .eql (t 25) (cN 0)),cO 27 (cM 26),cG 28 27 false (cM 8),cG 29 27 false (un UnOp.not (t 28)),cO 30 (pick (t 27) aF (t 29))]).seq (C2.cond (t 30) ((ops 0 [cO 31 (bld [AV.int IntKind.i64 (0),AV.int IntKind.i64 (0),AV.int IntKind.i64 (0),AV.esl] []),Op2.mk none none (Ins.st 4 (t 4) (t 31)),cO 5 (mov (cN 16))]).seq ret) skip)).seq ((ops 0 [cO 32 (fa 0 (t 2)),cO 33 (cD 32),cO 34 (fa 1 (t 2)),cO 35 (cD 34),cO 36 (fa 1 (t 3)),cO 37 (cD 36),cO 38 (mn (t 35) [t 37]),cO 39 (fa 2 (t 2)),cO 40 (cD 39),cO 41 (fa 2 (t 3)),cO 42 (cD 41),cO 43 (mn (t 40) [t 42]),cO 44 (cM 7),cO 45 (bld [AV.int IntKind.i64 (0),AV.int IntKind.i64 (0),AV.int IntKind.i64 (0),AV.esl] [(0,1,t 33),(1,1,t 38),(2,1,t 43),(3,1,t 44)]),Op2.mk none none (Ins.st 4 (t 4) (t 45)),cO 5 (mov (cN 0))]).seq ret))))))
theorem Bz:Is Tryz.prog 16 b16:=Is.mk' Tryz.func16 (by kernel_rfl)
def b18:F2:=(F2.mk 57 [RV.cn 4 4,RV.t 5] ((ops 0 [cO 2 (box (t 0)),cO 3 (box (t 1)),cO 4 (alloc (AV.agg [AV.int IntKind.i64 (0),AV.int IntKind.i64 (0),AV.int IntKind.i64 (0),AV.esl])),cO 5 (mov (cN 0))]).seq (((ops 0 [cO 11 (ldn 4 (t 2)),cO 12 (ldn 4 (t 3)),cO 13 (call (cF 40) [t 11,t 12]),cO 6 (cM 13)]).seq ((ops 0 [cO 14 (cM 6),cO 15 (cB .neq (t 14) (cN 0))]).seq (C2.cond (t 15) ((ops 0 [cO 16 (bld [AV.int IntKind.i64 (0),AV.int IntKind.i64 (0),AV.int IntKind.i64 (0),AV.esl] []),cO 17 (cM 6),Op2.mk none none (Ins.st 4 (t 4) (t 16)),cO 5 (cM 17)]).seq ret) skip))).seq ((ops 0 [cO 19 (ldn 4 (t 2)),cO 20 (ldn 4 (t 3)),cO 21 (call (cF 47) [t 19,t 20,c (AV.func 56 [])]),cO 18 (cM 21),cO 22 (ext (t 18) 0),cO 23 (ext (t 18) 1),cO 24 (ext (t 18) 2),cO 7 (alloc AV.esl),Op2.mk none none (Ins.st 1 (t 7) (t 22)),cO 8 (cM 23),cO 9 (cM 24)]).seq ((ops 0 [cO 25 (mkfn 59 [t 7]),cO 10 (cM 25)]).seq ((ops 0 [cO 26 (cM 10),cO 27 (ldn 4 (t 2)),cO 28 (ldn 4 (t 3)),cO 29 (call (t 26) [t 27,t 28])]).seq ((ops 0 [cO 30 (cM 10),cO 31 (ldn 4 (t 3)),cO 32 (ldn 4 (t 2)),cO 33 (call (t 30) [t 31,t 32])]).seq (((ops 0 [cO 34 (cD 7),cO 35 (lenS (t 34)),cO 36 (cB .gtr (t 35) (cN 1024)),cO 37 (cM 36),cG 38 37 false (cM 9),cO 39 (pick (t 37) aF (t 38))]).seq (C2.cond (t 39) ((ops 0 [cO 40 (bld [AV.int IntKind.i64 (0),AV.int IntKind.i64 (0),AV.int IntKind.i64 (0),AV.esl] []),Op2.mk none none (Ins.st 4 (t 4) (t 40)),cO 5 (mov (cN 5))]).seq ret) skip)).seq ((ops 0 [cO 41 (cD 7),cO 42 (call (cF 62) [t 41,c (AV.func 63 [])])]).seq ((ops 0 [cO 43 (fa 0 (t 2)),cO 44 (cD 43),cO 45 (fa 1 (t 2)),cO 46 (cD 45),cO 47 (fa 1 (t 3)),cO 48 (cD 47),cO 49 (mx (t 46) [t 48]),cO 50 (fa 2 (t 2)),cO 51 (cD 50),cO 52 (fa 2 (t 3)),cO 53 (cD 52),cO 54 (mx (t 51) [t 53]),cO 55 (cD 7),cO 56 (bld [AV.int IntKind.i64 (0),AV.int IntKind.i64 (0),AV.int IntKind.i64 (0),AV.esl] [(0,1,t 44),(1,1,t 49),(2,1,t 54),(3,1,t 55)]),Op2.mk none none (Ins.st 4 (t 4) (t 56)),cO 5 (mov (cN 0))]).seq ret))))))))))
theorem Bp:Is Tryz.prog 18 b18:=Is.mk' Tryz.func18 (by kernel_rfl)
def b20:F2:=(F2.mk 75 [RV.t 4] ((ops 0 [cO 2 (box (t 0)),cO 3 (box (t 1)),cO 4 (mov av)]).seq (((ops 0 [cO 8 (fa 0 (t 2)),cO 9 (cD 8),cO 10 (fa 0 (t 3)),cO 11 (cD 10),cO 12 (cB .neq (t 9) (t 11)),cO 13 (cM 12),cG 14 13 false (fa 1 (t 2)),cG 15 13 false (cD 14),cG 16 13 false (fa 1 (t 3)),cG 17 13 false (cD 16),cG 18 13 false (cB .neq (t 15) (t 17)),cO 19 (pick (t 13) aF (t 18)),cO 20 (cM 19),cG 21 20 false (fa 2 (t 2)),cG 22 20 false (cD 21),cG 23 20 false (fa 2 (t 3)),cG 24 20 false (cD 23),cG 25 20 false (cB .neq (t 22) (t 24)),cO 26 (pick (t 20) aF (t 25)),cO 27 (cM 26),cG 28 27 false (fa 3 (t 2)),cG 29 27 false (cD 28),cG 30 27 false (lenS (t 29)),cG 31 27 false (fa 3 (t 3)),cG 32 27 false (cD 31),cG 33 27 false (lenS (t 32)),cG 34 27 false (cB .neq (t 30) (t 33)),cO 35 (pick (t 27) aF (t 34))]).seq (C2.cond (t 35) ((ops 0 [cO 4 (mov av)]).seq ret) skip)).seq (((ops 0 [cO 5 (mov (cN 0))]).seq (block 0 (((ops 0 [cO 36 (cM 5),cO 37 (fa 3 (t 2)),cO 38 (cD 37),cO 39 (lenS (t 38)),cO 40 (cB .lss (t 36) (t 39))]).seq (C2.cond (t 40) skip (exit 0))).seq ((block 1 ((ops 2 [cO 43 (fa 3 (t 2)),cO 44 (cD 43),cO 45 (cM 5),cO 46 (ixaS 3 (t 44) (t 45)),cO 47 (ldn 3 (t 46)),cO 48 (fa 3 (t 3)),cO 49 (cD 48),cO 50 (cM 5),cO 51 (ixaS 3 (t 49) (t 50)),cO 52 (ldn 3 (t 51)),cO 6 (alloc (AV.agg [AV.esl,AV.esl,AV.esl])),cO 7 (alloc (AV.agg [AV.esl,AV.esl,AV.esl])),Op2.mk none none (Ins.st 3 (t 6) (t 47)),Op2.mk none none (Ins.st 3 (t 7) (t 52))]).seq ((ops 0 [cO 53 (fa 0 (t 6)),cO 54 (cD 53),cO 55 (fa 0 (t 7)),cO 56 (cD 55),cO 57 (call (cF 68) [t 54,t 56]),cO 58 (cB .neq (t 57) (cN 0)),cO 59 (cM 58),cG 60 59 false (fa 1 (t 6)),cG 61 59 false (cD 60),cG 62 59 false (fa 1 (t 7)),cG 63 59 false (cD 62),cG 64 59 false (call (cF 27) [t 61,t 63]),cG 65 59 false (un UnOp.not (t 64)),cO 66 (pick (t 59) aF (t 65)),cO 67 (cM 66),cG 68 67 false (fa 2 (t 6)),cG 69 67 false (cD 68),cG 70 67 false (fa 2 (t 7)),cG 71 67 false (cD 70),cG 72 67 false (call (cF 27) [t 69,t 71]),cG 73 67 false (un UnOp.not (t 72)),cO 74 (pick (t 67) aF (t 73))]).seq (C2.cond (t 74) ((ops 0 [cO 4 (mov av)]).seq ret) skip)))).seq (ops 0 [cO 41 (cM 5),cO 42 (cB .add (t 41) (cN 1)),cO 5 (cM 42)]))).loop)).seq ((ops 0 [cO 4 (mov aF)]).seq ret)))))
theorem AN:Is Tryz.prog 20 b20:=Is.mk' Tryz.func20 (by kernel_rfl)
def b21:F2:=(F2.mk 54 [RV.cn 4 4,RV.t 5] ((ops 0 [cO 2 (box (t 0)),cO 3 (box (t 1)),cO 4 (alloc (AV.agg [AV.int IntKind.i64 (0),AV.int IntKind.i64 (0),AV.int IntKind.i64 (0),AV.esl])),cO 5 (mov (cN 0))]).seq (((ops 0 [cO 10 (ldn 4 (t 2)),cO 11 (ldn 4 (t 3)),cO 12 (call (cF 40) [t 10,t 11]),cO 6 (cM 12)]).seq ((ops 0 [cO 13 (cM 6),cO 14 (cB .neq (t 13) (cN 0))]).seq (C2.cond (t 14) ((ops 0 [cO 15 (bld [AV.int IntKind.i64 (0),AV.int IntKind.i64 (0),AV.int IntKind.i64 (0),AV.esl] []),cO 16 (cM 6),Op2.mk none none (Ins.st 4 (t 4) (t 15)),cO 5 (cM 16)]).seq ret) skip))).seq (((ops 0 [cO 17 (fa 2 (t 2)),cO 18 (cD 17),cO 19 (fa 2 (t 3)),cO 20 (cD 19),cO 21 (cB .mul (t 18) (t 20)),cO 22 (cB .gtr (t 21) (cN 8))]).seq (C2.cond (t 22) ((ops 0 [cO 23 (bld [AV.int IntKind.i64 (0),AV.int IntKind.i64 (0),AV.int IntKind.i64 (0),AV.esl] []),Op2.mk none none (Ins.st 4 (t 4) (t 23)),cO 5 (mov (cN 5))]).seq ret) skip)).seq ((ops 0 [cO 25 (ldn 4 (t 2)),cO 26 (ldn 4 (t 3)),cO 27 (mkfn 69 [t 3]),cO 28 (call (cF 47) [t 25,t 26,t 27]),cO 24 (cM 28),cO 29 (ext (t 24) 0),cO 30 (ext (t 24) 1),cO 31 (ext (t 24) 2),cO 7 (cM 29),cO 8 (cM 30),cO 9 (cM 31)]).seq ((block 0 ((ops 0 [cO 33 (cM 7),cO 34 (lenS (t 33)),cO 35 (cB .eql (t 34) (cN 0)),cO 32 (cM 35)]).seq (C2.cond (t 32) ((ops 0 [cO 36 (bld [AV.int IntKind.i64 (0),AV.int IntKind.i64 (0),AV.int IntKind.i64 (0),AV.esl] []),Op2.mk none none (Ins.st 4 (t 4) (t 36)),cO 5 (mov (cN 16))]).seq ret) ((ops 0 [cO 38 (cM 9),cO 37 (cM 38)]).seq (C2.cond (t 37) ((ops 0 [cO 39 (bld [AV.int IntKind.i64 (0),AV.int IntKind.i64 (0),AV.int IntKind.i64 (0),AV.esl] []),Op2.mk none none (Ins.st 4 (t 4) (t 39)),cO 5 (mov (cN 5))]).seq ret) skip))))).seq ((ops 0 [cO 40 (fa 0 (t 2)),cO 41 (cD 40),cO 42 (fa 1 (t 2)),cO 43 (cD 42),cO 44 (fa 1 (t 3)),cO 45 (cD 44),cO 46 (mn (t 43) [t 45]),cO 47 (fa 2 (t 2)),cO 48 (cD 47),cO 49 (fa 2 (t 3)),cO 50 (cD 49),cO 51 (cB .mul (t 48) (t 50)),cO 52 (cM 7),cO 53 (bld [AV.int IntKind.i64 (0),AV.int IntKind.i64 (0),AV.int IntKind.i64 (0),AV.esl] [(0,1,t 41),(1,1,t 46),(2,1,t 51),(3,1,t 52)]),Op2.mk none none (Ins.st 4 (t 4) (t 53)),cO 5 (mov (cN 0))]).seq ret)))))))
theorem BT:Is Tryz.prog 21 b21:=Is.mk' Tryz.func21 (by kernel_rfl)
def b23:F2:=(F2.mk 72 [RV.cn 6 4,RV.t 7] ((ops 0 [cO 3 (box (t 0)),cO 4 (box (t 1)),cO 5 (box (t 2)),cO 6 (alloc (AV.agg [AV.int IntKind.i64 (0),AV.int IntKind.i64 (0),AV.int IntKind.i64 (0),AV.esl])),cO 7 (mov (cN 0))]).seq (((ops 0 [cO 13 (ldn 4 (t 3)),cO 14 (call (cF 71) [t 13]),cO 8 (cM 14)]).seq ((ops 0 [cO 15 (cM 8),cO 16 (cB .neq (t 15) (cN 0))]).seq (C2.cond (t 16) ((ops 0 [cO 17 (bld [AV.int IntKind.i64 (0),AV.int IntKind.i64 (0),AV.int IntKind.i64 (0),AV.esl] []),cO 18 (cM 8),Op2.mk none none (Ins.st 4 (t 6) (t 17)),cO 7 (cM 18)]).seq ret) skip))).seq ((block 0 ((ops 0 [cO 20 (cD 4),cO 21 (cB .lss (t 20) (cN 1)),cO 22 (cM 21),cG 23 22 false (cD 4),cG 24 22 false (cB .gtr (t 23) (cN 8)),cO 25 (pick (t 22) aF (t 24)),cO 19 (cM 25)]).seq (C2.cond (t 19) ((ops 0 [cO 26 (bld [AV.int IntKind.i64 (0),AV.int IntKind.i64 (0),AV.int IntKind.i64 (0),AV.esl] []),Op2.mk none none (Ins.st 4 (t 6) (t 26)),cO 7 (mov (cN 2))]).seq ret) ((ops 0 [cO 28 (cD 5),cO 29 (lenS (t 28)),cO 30 (fa 2 (t 3)),cO 31 (cD 30),cO 32 (cB .neq (t 29) (t 31)),cO 27 (cM 32)]).seq (C2.cond (t 27) ((ops 0 [cO 33 (bld [AV.int IntKind.i64 (0),AV.int IntKind.i64 (0),AV.int IntKind.i64 (0),AV.esl] []),Op2.mk none none (Ins.st 4 (t 6) (t 33)),cO 7 (mov (cN 15))]).seq ret) ((ops 0 [cO 35 (cD 5),cO 36 (mkfn 73 [t 4]),cO 37 (call (cF 72) [t 35,t 36]),cO 34 (cM 37)]).seq (C2.cond (t 34) ((ops 0 [cO 38 (bld [AV.int IntKind.i64 (0),AV.int IntKind.i64 (0),AV.int IntKind.i64 (0),AV.esl] []),Op2.mk none none (Ins.st 4 (t 6) (t 38)),cO 7 (mov (cN 2))]).seq ret) skip))))))).seq ((ops 0 [cO 39 (mkfn 74 [t 5]),cO 9 (cM 39)]).seq ((ops 0 [cO 40 (fa 0 (t 3)),cO 41 (cD 40),cO 42 (fa 1 (t 3)),cO 43 (cD 42),cO 44 (cD 4),cO 45 (bld [AV.int IntKind.i64 (0),AV.int IntKind.i64 (0),AV.int IntKind.i64 (0),AV.esl] [(0,1,t 41),(1,1,t 43),(2,1,t 44)]),cO 10 (alloc (AV.agg [AV.int IntKind.i64 (0),AV.int IntKind.i64 (0),AV.int IntKind.i64 (0),AV.esl])),Op2.mk none none (Ins.st 4 (t 10) (t 45))]).seq (((ops 0 [cO 46 (fa 3 (t 3)),cO 47 (cD 46),cO 48 (lenS (t 47)),cO 49 (mov (cN 0))]).seq (block 1 ((ops 0 [cO 50 (cB .lss (t 49) (t 48))]).seq ((C2.cond (t 50) skip (exit 1)).seq ((block 2 ((ops 0 [cO 51 (ixaS 3 (t 47) (t 49)),cO 52 (ldn 3 (t 51)),cO 12 (alloc (AV.agg [AV.esl,AV.esl,AV.esl])),Op2.mk none none (Ins.st 3 (t 12) (t 52))]).seq (mixS 1 [cO 53 (fa 3 (t 10)),cO 54 (cD 53),cO 55 (fa 0 (t 12)),cO 56 (cD 55),cO 57 (call (cF 42) [t 56]),cO 58 (cM 9),cO 59 (fa 1 (t 12)),cO 60 (cD 59),cO 61 (call (t 58) [t 60]),cO 62 (cM 9),cO 63 (fa 2 (t 12)),cO 64 (cD 63),cO 65 (call (t 62) [t 64]),cO 66 (bld [AV.esl,AV.esl,AV.esl] [(0,1,t 57),(1,1,t 61),(2,1,t 65)]),cO 67 (bldS 3 1 [AV.esl,AV.esl,AV.esl] [(0,3,t 66)]),cO 68 (app 3 72 (t 54) (t 67)),cO 69 (fa 3 (t 10)),Op2.mk none none (Ins.st 1 (t 69) (t 68))] [(0,0),(1,0),(2,0),(3,0),(5,0),(6,0),(7,0),(9,0),(10,0),(11,0),(4,1),(8,1),(12,1),(13,0),(14,1),(15,2),(16,0),(17,2)]))).seq (ops 0 [cO 70 (cB .add (t 49) (cN 1)),cO 49 (cM 70)])))).loop)).seq ((ops 0 [cO 71 (ldn 4 (t 10)),Op2.mk none none (Ins.st 4 (t 6) (t 71)),cO 7 (mov (cN 0))]).seq ret))))))))
theorem BO:Is Tryz.prog 23 b23:=Is.mk' Tryz.func23 (by kernel_rfl)
def b25:F2:=(F2.mk 24 [RV.t 2,RV.t 3] ((ops 0 [cO 1 (box (t 0)),cO 2 (mov (c AV.esl)),cO 3 (mov (cN 0))]).seq (((ops 0 [cO 7 (ldn 4 (t 1)),cO 8 (call (cF 71) [t 7]),cO 4 (cM 8)]).seq ((ops 0 [cO 9 (cM 4),cO 10 (cB .neq (t 9) (cN 0))]).seq (C2.cond (t 10) ((ops 0 [cO 11 (cM 4),cO 2 (mov (c AV.esl)),cO 3 (cM 11)]).seq ret) skip))).seq ((ops 0 [cO 13 (fa 0 (t 1)),cO 14 (cD 13),cO 15 (call (cF 77) [t 14]),cO 12 (cM 15),cO 16 (ext (t 12) 0),cO 17 (ext (t 12) 1),cO 5 (cM 16),cO 6 (cM 17)]).seq (((ops 0 [cO 18 (cM 6),cO 19 (cB .neq (t 18) (cN 0))]).seq (C2.cond (t 19) ((ops 0 [cO 20 (cM 6),cO 2 (mov (c AV.esl)),cO 3 (cM 20)]).seq ret) skip)).seq ((ops 0 [cO 21 (cM 5),cO 22 (mkfn 78 [t 1]),cO 23 (call (cF 49) [t 21,t 22]),cO 2 (cM 23),cO 3 (mov (cN 0))]).seq ret))))))
theorem Ca:Is Tryz.prog 25 b25:=Is.mk' Tryz.func25 (by kernel_rfl)
def b27:F2:=(F2.mk 27 [RV.t 4] ((ops 0 [cO 4 (mov av)]).seq (((ops 0 [cO 6 (cM 0),cO 7 (lenS (t 6)),cO 8 (cM 1),cO 9 (lenS (t 8)),cO 10 (cB .neq (t 7) (t 9))]).seq (C2.cond (t 10) ((ops 0 [cO 4 (mov av)]).seq ret) skip)).seq (((ops 0 [cO 5 (mov (cN 0))]).seq (block 0 (((ops 0 [cO 11 (cM 5),cO 12 (cM 0),cO 13 (lenS (t 12)),cO 14 (cB .lss (t 11) (t 13))]).seq (C2.cond (t 14) skip (exit 0))).seq ((block 1 ((mixS 1 [cO 17 (cM 0),cO 18 (cM 5),cO 19 (ixaS 1 (t 17) (t 18)),cO 20 (cD 19),cO 21 (cM 1),cO 22 (cM 5),cO 23 (ixaS 1 (t 21) (t 22)),cO 24 (cD 23),cO 25 (call (cF 68) [t 20,t 24]),cO 26 (cB .neq (t 25) (cN 0))] [(0,0),(1,0),(2,0),(3,0),(4,0),(5,0),(6,0),(7,0),(8,2),(9,0)]).seq (C2.cond (t 26) ((ops 0 [cO 4 (mov av)]).seq ret) skip))).seq (ops 0 [cO 15 (cM 5),cO 16 (cB .add (t 15) (cN 1)),cO 5 (cM 16)]))).loop)).seq ((ops 0 [cO 4 (mov aF)]).seq ret)))))
theorem Bq:Is Tryz.prog 27 b27:=Is.mk' Tryz.func27 (by kernel_rfl)
def b28:F2:=(F2.mk 29 [RV.t 2] ((ops 0 [cO 2 (mov av)]).seq (((ops 0 [cO 5 (cM 0),cO 6 (lenS (t 5)),cO 7 (mov (cN 0))]).seq (block 0 ((ops 0 [cO 8 (cB .lss (t 7) (t 6))]).seq ((C2.cond (t 8) skip (exit 0)).seq ((block 1 ((ops 0 [cO 9 (ixaS 4 (t 5) (t 7)),cO 10 (ldn 4 (t 9)),cO 4 (alloc (AV.agg [AV.int IntKind.i64 (0),AV.int IntKind.i64 (0),AV.int IntKind.i64 (0),AV.esl])),Op2.mk none none (Ins.st 4 (t 4) (t 10))]).seq ((mixS 1 [cO 11 (ldn 4 (t 4)),cO 12 (call (cF 38) [t 11]),cO 13 (un UnOp.not (t 12)),cO 14 (cM 13),cG 15 14 false (ldn 4 (t 4)),cG 16 14 false (call (cF 29) [t 15]),cG 17 14 false (cB .neq (t 16) (cN 0)),cO 18 (pick (t 14) aF (t 17)),cO 19 (cM 18),cG 20 19 false (fa 0 (t 4)),cG 21 19 false (cD 20),cG 22 19 false (cM 0),cG 23 19 false (ixaS 4 (t 22) (cN 0)),cG 24 19 false (fa 0 (t 23)),cG 25 19 false (cD 24),cG 26 19 false (cB .neq (t 21) (t 25)),cO 27 (pick (t 19) aF (t 26))] [(0,0),(1,1),(2,0),(3,0),(4,0),(5,1),(6,0),(7,0),(8,0),(9,0),(10,0),(11,0),(12,0),(13,0),(14,0),(15,0),(16,0)]).seq (C2.cond (t 27) ((ops 0 [cO 2 (mov av)]).seq ret) skip)))).seq (ops 0 [cO 28 (cB .add (t 7) (cN 1)),cO 7 (cM 28)])))).loop)).seq ((ops 0 [cO 2 (mov aF)]).seq ret))))
theorem Cg:Is Tryz.prog 28 b28:=Is.mk' Tryz.func28 (by kernel_rfl)
def b29:F2:=(F2.mk 56 [RV.t 2] ((ops 0 [cO 1 (box (t 0)),cO 2 (mov (cN 0))]).seq (((ops 0 [cO 5 (fa 0 (t 1)),cO 6 (cD 5),cO 7 (cB .lss (t 6) (cN 1)),cO 8 (cM 7),cG 9 8 false (fa 0 (t 1)),cG 10 8 false (cD 9),cG 11 8 false (cB .gtr (t 10) (cN 5)),cO 12 (pick (t 8) aF (t 11)),cO 13 (cM 12),cG 14 13 false (fa 1 (t 1)),cG 15 13 false (cD 14),cG 16 13 false (cB .lss (t 15) (cN 1)),cO 17 (pick (t 13) aF (t 16)),cO 18 (cM 17),cG 19 18 false (fa 1 (t 1)),cG 20 18 false (cD 19),cG 21 18 false (cB .gtr (t 20) (cN 8)),cO 22 (pick (t 18) aF (t 21)),cO 23 (cM 22),cG 24 23 false (fa 2 (t 1)),cG 25 23 false (cD 24),cG 26 23 false (cB .lss (t 25) (cN 1)),cO 27 (pick (t 23) aF (t 26)),cO 28 (cM 27),cG 29 28 false (fa 2 (t 1)),cG 30 28 false (cD 29),cG 31 28 false (cB .gtr (t 30) (cN 8)),cO 32 (pick (t 28) aF (t 31))]).seq (C2.cond (t 32) ((ops 0 [cO 2 (mov (cN 2))]).seq ret) skip)).seq (((ops 0 [cO 33 (fa 3 (t 1)),cO 34 (cD 33),cO 35 (lenS (t 34)),cO 36 (cB .lss (t 35) (cN 1)),cO 37 (cM 36),cG 38 37 false (fa 3 (t 1)),cG 39 37 false (cD 38),cG 40 37 false (lenS (t 39)),cG 41 37 false (cB .gtr (t 40) (cN 1024)),cO 42 (pick (t 37) aF (t 41))]).seq (C2.cond (t 42) ((ops 0 [cO 2 (mov (cN 5))]).seq ret) skip)).seq (((ops 0 [cO 3 (mov (cN 0))]).seq (block 0 (((ops 0 [cO 43 (cM 3),cO 44 (fa 3 (t 1)),cO 45 (cD 44),cO 46 (lenS (t 45)),cO 47 (cB .lss (t 43) (t 46))]).seq (C2.cond (t 47) skip (exit 0))).seq ((block 1 ((ops 0 [cO 50 (ldn 4 (t 1)),cO 51 (cM 3),cO 52 (call (cF 82) [t 50,t 51]),cO 4 (cM 52)]).seq ((ops 0 [cO 53 (cM 4),cO 54 (cB .neq (t 53) (cN 0))]).seq (C2.cond (t 54) ((ops 0 [cO 55 (cM 4),cO 2 (cM 55)]).seq ret) skip)))).seq (ops 0 [cO 48 (cM 3),cO 49 (cB .add (t 48) (cN 1)),cO 3 (cM 49)]))).loop)).seq ((ops 0 [cO 2 (mov (cN 0))]).seq ret))))))
theorem Cd:Is Tryz.prog 29 b29:=Is.mk' Tryz.func29 (by kernel_rfl)
def b30:F2:=(F2.mk 10 [RV.t 4] ((ops 0 [cO 2 (box (t 0)),cO 3 (box (t 1)),cO 4 (mov av)]).seq ((ops 0 [cO 5 (fa 3 (t 2)),cO 6 (cD 5),cO 7 (fa 3 (t 3)),cO 8 (cD 7),cO 9 (call (cF 83) [t 6,t 8,c (AV.func 84 [])]),cO 4 (cM 9)]).seq ret)))
theorem B0:Is Tryz.prog 30 b30:=Is.mk' Tryz.func30 (by kernel_rfl)
def b33:F2:=(F2.mk 69 [RV.cn 4 4,RV.t 5] ((ops 0 [cO 2 (box (t 0)),cO 4 (alloc (AV.agg [AV.int IntKind.i64 (0),AV.int IntKind.i64 (0),AV.int IntKind.i64 (0),AV.esl])),cO 5 (mov (cN 0))]).seq (((ops 0 [cO 11 (ldn 4 (t 2)),cO 12 (call (cF 71) [t 11]),cO 6 (cM 12)]).seq ((ops 0 [cO 13 (cM 6),cO 14 (cB .neq (t 13) (cN 0))]).seq (C2.cond (t 14) ((ops 0 [cO 15 (bld [AV.int IntKind.i64 (0),AV.int IntKind.i64 (0),AV.int IntKind.i64 (0),AV.esl] []),cO 16 (cM 6),Op2.mk none none (Ins.st 4 (t 4) (t 15)),cO 5 (cM 16)]).seq ret) skip))).seq (((ops 0 [cO 17 (cM 1),cO 18 (call (cF 86) [t 17]),cO 7 (cM 18)]).seq ((ops 0 [cO 19 (cM 7),cO 20 (cB .neq (t 19) (cN 0))]).seq (C2.cond (t 20) ((ops 0 [cO 21 (bld [AV.int IntKind.i64 (0),AV.int IntKind.i64 (0),AV.int IntKind.i64 (0),AV.esl] []),cO 22 (cM 7),Op2.mk none none (Ins.st 4 (t 4) (t 21)),cO 5 (cM 22)]).seq ret) skip))).seq (((ops 0 [cO 23 (cM 1),cO 24 (lenS (t 23)),cO 25 (fa 0 (t 2)),cO 26 (cD 25),cO 27 (cB .neq (t 24) (t 26))]).seq (C2.cond (t 27) ((ops 0 [cO 28 (bld [AV.int IntKind.i64 (0),AV.int IntKind.i64 (0),AV.int IntKind.i64 (0),AV.esl] []),Op2.mk none none (Ins.st 4 (t 4) (t 28)),cO 5 (mov (cN 22))]).seq ret) skip)).seq ((ops 0 [cO 29 (fa 0 (t 2)),cO 30 (cD 29),cO 31 (fa 1 (t 2)),cO 32 (cD 31),cO 33 (fa 2 (t 2)),cO 34 (cD 33),cO 35 (bld [AV.int IntKind.i64 (0),AV.int IntKind.i64 (0),AV.int IntKind.i64 (0),AV.esl] [(0,1,t 30),(1,1,t 32),(2,1,t 34)]),cO 8 (alloc (AV.agg [AV.int IntKind.i64 (0),AV.int IntKind.i64 (0),AV.int IntKind.i64 (0),AV.esl])),Op2.mk none none (Ins.st 4 (t 8) (t 35))]).seq (((ops 0 [cO 36 (fa 3 (t 2)),cO 37 (cD 36),cO 38 (lenS (t 37)),cO 39 (mov (cN 0))]).seq (block 0 ((ops 0 [cO 40 (cB .lss (t 39) (t 38))]).seq ((C2.cond (t 40) skip (exit 0)).seq ((block 1 ((ops 0 [cO 41 (ixaS 3 (t 37) (t 39)),cO 42 (ldn 3 (t 41)),cO 10 (alloc (AV.agg [AV.esl,AV.esl,AV.esl])),Op2.mk none none (Ins.st 3 (t 10) (t 42))]).seq (mixS 9 [cO 43 (fa 3 (t 8)),cO 44 (cD 43),cO 45 (fa 0 (t 10)),cO 46 (cD 45),cO 47 (bldS 1 1 [AV.esl] [(0,1,t 46)]),cO 48 (cM 1),cO 49 (call (cF 87) [t 47,t 48]),cO 50 (ixaS 1 (t 49) (cN 0)),cO 51 (cD 50),cO 52 (fa 1 (t 10)),cO 53 (cD 52),cO 54 (cM 1),cO 55 (call (cF 87) [t 53,t 54]),cO 56 (fa 2 (t 10)),cO 57 (cD 56),cO 58 (cM 1),cO 59 (call (cF 87) [t 57,t 58]),cO 60 (bld [AV.esl,AV.esl,AV.esl] [(0,1,t 51),(1,1,t 55),(2,1,t 59)]),cO 61 (bldS 3 1 [AV.esl,AV.esl,AV.esl] [(0,3,t 60)]),cO 62 (app 3 72 (t 44) (t 61)),cO 63 (fa 3 (t 8)),Op2.mk none none (Ins.st 1 (t 63) (t 62))] [(0,0),(1,0),(2,0),(3,0),(4,3),(5,0),(9,0),(10,0),(11,0),(13,0),(14,0),(15,0),(6,1),(7,0),(8,0),(12,1),(16,1),(17,0),(18,1),(19,2),(20,0),(21,2)]))).seq (ops 0 [cO 64 (cB .add (t 39) (cN 1)),cO 39 (cM 64)])))).loop)).seq ((ops 0 [cO 65 (fa 3 (t 8)),cO 66 (cD 65),cO 67 (call (cF 62) [t 66,c (AV.func 88 [])])]).seq ((ops 0 [cO 68 (ldn 4 (t 8)),Op2.mk none none (Ins.st 4 (t 4) (t 68)),cO 5 (mov (cN 0))]).seq ret)))))))))
theorem Ce:Is Tryz.prog 33 b33:=Is.mk' Tryz.func33 (by kernel_rfl)
def b38:F2:=(F2.mk 37 [RV.t 2] ((ops 0 [cO 1 (box (t 0)),cO 2 (mov av)]).seq (((ops 0 [cO 5 (fa 3 (t 1)),cO 6 (cD 5),cO 7 (lenS (t 6)),cO 8 (cB .gtr (t 7) (cN 30))]).seq (C2.cond (t 8) ((ops 0 [cO 2 (mov av)]).seq ret) skip)).seq (((ops 0 [cO 3 (mov (cN 0))]).seq (block 0 (((ops 0 [cO 9 (cM 3),cO 10 (fa 3 (t 1)),cO 11 (cD 10),cO 12 (lenS (t 11)),cO 13 (cB .lss (t 9) (t 12))]).seq (C2.cond (t 13) skip (exit 0))).seq ((block 1 ((ops 0 [cO 16 (fa 3 (t 1)),cO 17 (cD 16),cO 18 (cM 3),cO 19 (ixaS 3 (t 17) (t 18)),cO 20 (ldn 3 (t 19)),cO 4 (alloc (AV.agg [AV.esl,AV.esl,AV.esl])),Op2.mk none none (Ins.st 3 (t 4) (t 20))]).seq ((ops 0 [cO 21 (fa 0 (t 4)),cO 22 (cD 21),cO 23 (lenS (t 22)),cO 24 (cB .gtr (t 23) (cN 10)),cO 25 (cM 24),cG 26 25 false (fa 1 (t 4)),cG 27 25 false (cD 26),cG 28 25 false (call (cF 99) [t 27,cN ((30))]),cG 29 25 false (un UnOp.not (t 28)),cO 30 (pick (t 25) aF (t 29)),cO 31 (cM 30),cG 32 31 false (fa 2 (t 4)),cG 33 31 false (cD 32),cG 34 31 false (call (cF 99) [t 33,cN ((30))]),cG 35 31 false (un UnOp.not (t 34)),cO 36 (pick (t 31) aF (t 35))]).seq (C2.cond (t 36) ((ops 0 [cO 2 (mov av)]).seq ret) skip)))).seq (ops 0 [cO 14 (cM 3),cO 15 (cB .add (t 14) (cN 1)),cO 3 (cM 15)]))).loop)).seq ((ops 0 [cO 2 (mov aF)]).seq ret)))))
theorem B3:Is Tryz.prog 38 b38:=Is.mk' Tryz.func38 (by kernel_rfl)
def b39:F2:=(F2.mk 53 [RV.cn 0 4,RV.cn 1 4] ((ops 0 [cO 0 (alloc (AV.agg [AV.int IntKind.i64 (0),AV.int IntKind.i64 (0),AV.int IntKind.i64 (0),AV.esl])),cO 1 (alloc (AV.agg [AV.int IntKind.i64 (0),AV.int IntKind.i64 (0),AV.int IntKind.i64 (0),AV.esl]))]).seq ((ops 0 [cO 8 (bld [AV.int IntKind.i64 (0),AV.int IntKind.i64 (0),AV.int IntKind.i64 (0),AV.esl] [(0,1,cN ((2))),(1,1,cN ((2))),(2,1,cN ((2)))]),cO 9 (bld [AV.int IntKind.i64 (0),AV.int IntKind.i64 (0),AV.int IntKind.i64 (0),AV.esl] [(0,1,cN ((2))),(1,1,cN ((2))),(2,1,cN ((2)))]),cO 2 (alloc (AV.agg [AV.int IntKind.i64 (0),AV.int IntKind.i64 (0),AV.int IntKind.i64 (0),AV.esl])),cO 3 (alloc (AV.agg [AV.int IntKind.i64 (0),AV.int IntKind.i64 (0),AV.int IntKind.i64 (0),AV.esl])),Op2.mk none none (Ins.st 4 (t 2) (t 8)),Op2.mk none none (Ins.st 4 (t 3) (t 9))]).seq ((ops 0 [cO 10 (bldS 1 2 [AV.int IntKind.i64 (0)] [(0,1,cN ((0))),(1,1,cN ((0)))]),cO 11 (bldS 1 2 [AV.int IntKind.i64 (0)] [(0,1,cN ((0))),(1,1,cN ((1)))]),cO 12 (bldS 1 2 [AV.int IntKind.i64 (0)] [(0,1,cN ((1))),(1,1,cN ((0)))]),cO 13 (bldS 1 2 [AV.int IntKind.i64 (0)] [(0,1,cN ((1))),(1,1,cN ((1)))]),cO 14 (bldS 1 4 [AV.esl] [(0,1,t 10),(1,1,t 11),(2,1,t 12),(3,1,t 13)]),cO 4 (cM 14)]).seq (((ops 0 [cO 15 (cM 4),cO 16 (lenS (t 15)),cO 17 (mov (cN 0))]).seq (block 0 ((ops 0 [cO 18 (cB .lss (t 17) (t 16))]).seq ((C2.cond (t 18) skip (exit 0)).seq ((block 1 ((ops 0 [cO 19 (ixaS 1 (t 15) (t 17)),cO 20 (cD 19),cO 6 (cM 20)]).seq ((ops 0 [cO 21 (cM 6),cO 22 (bldS 1 2 [AV.int IntKind.i64 (0)] [(0,1,cN ((0))),(1,1,cN ((0)))]),cO 23 (bldS 1 2 [AV.int IntKind.i64 (0)] [(0,1,cN ((1))),(1,1,cN ((1)))]),cO 24 (bldS 1 2 [AV.esl] [(0,1,t 22),(1,1,t 23)]),cO 25 (bld [AV.esl,AV.esl,AV.esl] [(0,1,t 21),(1,1,t 24)]),cO 7 (alloc (AV.agg [AV.esl,AV.esl,AV.esl])),Op2.mk none none (Ins.st 3 (t 7) (t 25))]).seq (((ops 1 [cO 26 (cM 6),cO 27 (ixaS 1 (t 26) (cN 0)),cO 28 (cD 27),cO 29 (cM 6),cO 30 (ixaS 1 (t 29) (cN 1)),cO 31 (cD 30),cO 32 (cB .eql (t 28) (t 31))]).seq (C2.cond (t 32) (ops 0 [cO 33 (cM 6),cO 34 (bldS 1 1 [AV.esl] [(0,1,t 33)]),cO 35 (fa 1 (t 7)),Op2.mk none none (Ins.st 1 (t 35) (t 34))]) skip)).seq ((ops 0 [cO 36 (fa 3 (t 2)),cO 37 (cD 36),cO 38 (ldn 3 (t 7)),cO 39 (bldS 3 1 [AV.esl,AV.esl,AV.esl] [(0,3,t 38)]),cO 40 (app 3 72 (t 37) (t 39)),cO 41 (fa 3 (t 2)),Op2.mk none none (Ins.st 1 (t 41) (t 40))]).seq (ops 0 [cO 42 (fa 3 (t 3)),cO 43 (cD 42),cO 44 (cM 6),cO 45 (cM 4),cO 46 (bld [AV.esl,AV.esl,AV.esl] [(0,1,t 44),(1,1,t 45)]),cO 47 (bldS 3 1 [AV.esl,AV.esl,AV.esl] [(0,3,t 46)]),cO 48 (app 3 72 (t 43) (t 47)),cO 49 (fa 3 (t 3)),Op2.mk none none (Ins.st 1 (t 49) (t 48))])))))).seq (ops 0 [cO 50 (cB .add (t 17) (cN 1)),cO 17 (cM 50)])))).loop)).seq ((mixS 2 [cO 51 (ldn 4 (t 2)),cO 52 (ldn 4 (t 3)),Op2.mk none none (Ins.st 4 (t 0) (t 51)),Op2.mk none none (Ins.st 4 (t 1) (t 52))] [(0,0),(1,0),(2,1),(3,2)]).seq ret))))))
theorem BW:Is Tryz.prog 39 b39:=Is.mk' Tryz.func39 (by kernel_rfl)
def b40:F2:=(F2.mk 22 [RV.t 4] ((ops 0 [cO 2 (box (t 0)),cO 3 (box (t 1)),cO 4 (mov (cN 0))]).seq (((ops 0 [cO 7 (ldn 4 (t 2)),cO 8 (call (cF 71) [t 7]),cO 5 (cM 8)]).seq ((ops 0 [cO 9 (cM 5),cO 10 (cB .neq (t 9) (cN 0))]).seq (C2.cond (t 10) ((ops 0 [cO 11 (cM 5),cO 4 (cM 11)]).seq ret) skip))).seq (((ops 0 [cO 12 (ldn 4 (t 3)),cO 13 (call (cF 71) [t 12]),cO 6 (cM 13)]).seq ((ops 0 [cO 14 (cM 6),cO 15 (cB .neq (t 14) (cN 0))]).seq (C2.cond (t 15) ((ops 0 [cO 16 (cM 6),cO 4 (cM 16)]).seq ret) skip))).seq (((ops 0 [cO 17 (fa 0 (t 2)),cO 18 (cD 17),cO 19 (fa 0 (t 3)),cO 20 (cD 19),cO 21 (cB .neq (t 18) (t 20))]).seq (C2.cond (t 21) ((ops 0 [cO 4 (mov (cN 22))]).seq ret) skip)).seq ((ops 0 [cO 4 (mov (cN 0))]).seq ret))))))
theorem Bu:Is Tryz.prog 40 b40:=Is.mk' Tryz.func40 (by kernel_rfl)
def b41:F2:=(F2.mk 19 [RV.cn 4 3,RV.t 5] ((ops 0 [cO 2 (box (t 0)),cO 3 (box (t 1)),cO 4 (alloc (AV.agg [AV.esl,AV.esl,AV.esl])),cO 5 (mov av)]).seq ((ops 0 [cO 7 (fa 3 (t 2)),cO 8 (cD 7),cO 9 (mkfn 101 [t 3]),cO 10 (call (cF 100) [t 8,t 9]),cO 6 (cM 10)]).seq (((ops 0 [cO 11 (cM 6),cO 12 (cB .lss (t 11) (cN 0))]).seq (C2.cond (t 12) ((ops 0 [cO 13 (bld [AV.esl,AV.esl,AV.esl] []),Op2.mk none none (Ins.st 3 (t 4) (t 13)),cO 5 (mov av)]).seq ret) skip)).seq ((ops 0 [cO 14 (fa 3 (t 2)),cO 15 (cD 14),cO 16 (cM 6),cO 17 (ixaS 3 (t 15) (t 16)),cO 18 (ldn 3 (t 17)),Op2.mk none none (Ins.st 3 (t 4) (t 18)),cO 5 (mov aF)]).seq ret)))))
theorem BB:Is Tryz.prog 41 b41:=Is.mk' Tryz.func41 (by kernel_rfl)
def b42:F2:=(F2.mk 8 [RV.t 2] ((ops 0 [cO 2 (mov (c AV.esl))]).seq (((ops 0 [cO 3 (cM 0),cO 4 (snil false (t 3))]).seq (C2.cond (t 4) ((ops 0 [cO 2 (mov (c AV.esl))]).seq ret) skip)).seq ((ops 0 [cO 5 (bldS 1 0 [AV.int IntKind.i64 (0)] []),cO 6 (cM 0),cO 7 (app 1 8 (t 5) (t 6)),cO 2 (cM 7)]).seq ret))))
theorem y4:Is Tryz.prog 42 b42:=Is.mk' Tryz.func42 (by kernel_rfl)
def b43:F2:=(F2.mk 11 [RV.t 4] ((ops 0 [cO 2 (box (t 0)),cO 4 (mov (c AV.esl))]).seq (((ops 0 [cO 5 (cM 1),cO 6 (cB .eql (t 5) (cN 0))]).seq (C2.cond (t 6) ((ops 0 [cO 7 (ldn 3 (t 2)),cO 8 (call (cF 61) [t 7]),cO 4 (cM 8)]).seq ret) skip)).seq ((ops 0 [cO 9 (fa 1 (t 2)),cO 10 (cD 9),cO 4 (cM 10)]).seq ret))))
theorem AZ:Is Tryz.prog 43 b43:=Is.mk' Tryz.func43 (by kernel_rfl)
def b44:F2:=(F2.mk 10 [RV.t 6] ((ops 0 [cO 4 (box (t 1)),cO 5 (box (t 2)),cO 6 (mov av)]).seq ((ops 0 [cO 7 (cM 0),cO 8 (mkfn 102 [t 5,t 4]),cO 9 (call (cF 96) [t 7,t 8]),cO 6 (cM 9)]).seq ret)))
theorem Bi:Is Tryz.prog 44 b44:=Is.mk' Tryz.func44 (by kernel_rfl)
def b47:F2:=(F2.mk 80 [RV.t 6,RV.t 7,RV.t 8] ((ops 0 [cO 3 (box (t 0)),cO 4 (box (t 1)),cO 6 (mov (c AV.esl)),cO 7 (mov av),cO 8 (mov av)]).seq ((ops 0 [cO 9 (mov (c AV.esl))]).seq ((ops 0 [cO 10 (mov aF),cO 11 (mov av)]).seq (((ops 0 [cO 18 (fa 3 (t 3)),cO 19 (cD 18),cO 20 (lenS (t 19)),cO 21 (mov (cN 0))]).seq (block 0 ((ops 0 [cO 22 (cB .lss (t 21) (t 20))]).seq ((C2.cond (t 22) skip (exit 0)).seq ((block 1 ((ops 0 [cO 23 (ixaS 3 (t 19) (t 21)),cO 24 (ldn 3 (t 23)),cO 13 (alloc (AV.agg [AV.esl,AV.esl,AV.esl])),Op2.mk none none (Ins.st 3 (t 13) (t 24))]).seq ((ops 0 [cO 26 (ldn 4 (t 4)),cO 27 (fa 0 (t 13)),cO 28 (cD 27),cO 29 (call (cF 41) [t 26,t 28]),cO 25 (cM 29),cO 30 (ext (t 25) 0),cO 31 (ext (t 25) 1),cO 14 (alloc (AV.agg [AV.esl,AV.esl,AV.esl])),Op2.mk none none (Ins.st 3 (t 14) (t 30)),cO 15 (cM 31)]).seq (((ops 0 [cO 32 (cM 15),cO 33 (un UnOp.not (t 32))]).seq (C2.cond (t 33) (exit 1) skip)).seq ((mixS 1 [cO 34 (cM 2),cO 35 (fa 1 (t 13)),cO 36 (cD 35),cO 37 (fa 1 (t 14)),cO 38 (cD 37),cO 39 (call (t 34) [t 36,t 38]),cO 40 (cM 2),cO 41 (ldn 3 (t 13)),cO 42 (call (cF 61) [t 41]),cO 43 (ldn 3 (t 14)),cO 44 (call (cF 61) [t 43]),cO 45 (call (t 40) [t 42,t 44]),cO 16 (cM 39),cO 17 (cM 45)] [(0,0),(1,0),(2,0),(3,0),(4,0),(6,0),(7,0),(9,0),(5,1),(8,1),(10,2),(11,2),(12,0),(13,0)]).seq ((ops 0 [cO 46 (cM 10),cO 47 (cM 46),cG 48 47 true (cM 16),cG 49 47 true (lenS (t 48)),cG 50 47 true (cB .gtr (t 49) (cN 0)),cO 51 (pick (t 47) (t 50) av),cO 52 (cM 51),cG 53 52 true (cM 17),cG 54 52 true (lenS (t 53)),cG 55 52 true (cB .gtr (t 54) (cN 0)),cO 56 (pick (t 52) (t 55) av),cO 10 (cM 56)]).seq ((ops 0 [cO 57 (cM 11),cO 58 (cM 57),cG 59 58 false (cM 16),cG 60 58 false (lenS (t 59)),cG 61 58 false (cB .gtr (t 60) (cN 1024)),cO 62 (pick (t 58) aF (t 61)),cO 63 (cM 62),cG 64 63 false (cM 17),cG 65 63 false (lenS (t 64)),cG 66 63 false (cB .gtr (t 65) (cN 1024)),cO 67 (pick (t 63) aF (t 66)),cO 11 (cM 67)]).seq (ops 0 [cO 68 (cM 9),cO 69 (fa 0 (t 13)),cO 70 (cD 69),cO 71 (cM 16),cO 72 (cM 17),cO 73 (call (cF 60) [t 70,t 71,t 72]),cO 74 (bldS 3 1 [AV.esl,AV.esl,AV.esl] [(0,3,t 73)]),cO 75 (app 3 72 (t 68) (t 74)),cO 9 (cM 75)])))))))).seq (ops 0 [cO 76 (cB .add (t 21) (cN 1)),cO 21 (cM 76)])))).loop)).seq ((ops 0 [cO 77 (cM 9),cO 78 (cM 10),cO 79 (cM 11),cO 6 (cM 77),cO 7 (cM 78),cO 8 (cM 79)]).seq ret))))))
theorem AL:Is Tryz.prog 47 b47:=Is.mk' Tryz.func47 (by kernel_rfl)
def b48:F2:=(F2.mk 8 [RV.t 4] ((ops 0 [cO 3 (box (t 1)),cO 4 (mov (c AV.esl))]).seq ((ops 0 [cO 5 (cM 0),cO 6 (mkfn 50 [t 3]),cO 7 (call (cF 49) [t 5,t 6]),cO 4 (cM 7)]).seq ret)))
theorem AR:Is Tryz.prog 48 b48:=Is.mk' Tryz.func48 (by kernel_rfl)
def b49:F2:=(F2.mk 23 [RV.t 4] ((ops 0 [cO 4 (mov (c AV.esl))]).seq ((ops 0 [cO 5 (mov (c AV.esl))]).seq (((ops 0 [cO 8 (cM 0),cO 9 (lenS (t 8)),cO 10 (mov (cN 0))]).seq (block 0 ((ops 0 [cO 11 (cB .lss (t 10) (t 9))]).seq ((C2.cond (t 11) skip (exit 0)).seq ((block 1 ((ops 0 [cO 12 (ixaS 1 (t 8) (t 10)),cO 13 (cD 12),cO 7 (cM 13)]).seq ((ops 0 [cO 14 (cM 1),cO 15 (cM 7),cO 16 (call (t 14) [t 15])]).seq (C2.cond (t 16) (ops 0 [cO 17 (cM 5),cO 18 (cM 7),cO 19 (bldS 1 1 [AV.esl] [(0,1,t 18)]),cO 20 (app 1 24 (t 17) (t 19)),cO 5 (cM 20)]) skip)))).seq (ops 0 [cO 21 (cB .add (t 10) (cN 1)),cO 10 (cM 21)])))).loop)).seq ((ops 0 [cO 22 (cM 5),cO 4 (cM 22)]).seq ret)))))
theorem AE:Is Tryz.prog 49 b49:=Is.mk' Tryz.func49 (by kernel_rfl)
def b50:F2:=(F2.mk 7 [RV.t 3] ((ops 0 [cO 3 (mov av)]).seq ((ops 0 [cO 4 (cD 1),cO 5 (cM 0),cO 6 (call (cF 51) [t 4,t 5]),cO 3 (cM 6)]).seq ret)))
theorem Be:Is Tryz.prog 50 b50:=Is.mk' Tryz.func50 (by kernel_rfl)
def b51:F2:=(F2.mk 8 [RV.t 4] ((ops 0 [cO 3 (box (t 1)),cO 4 (mov av)]).seq ((ops 0 [cO 5 (cM 0),cO 6 (mkfn 104 [t 3]),cO 7 (call (cF 96) [t 5,t 6]),cO 4 (cM 7)]).seq ret)))
theorem AI:Is Tryz.prog 51 b51:=Is.mk' Tryz.func51 (by kernel_rfl)
def b56:F2:=(F2.mk 10 [RV.t 4] ((ops 0 [cO 4 (mov (c AV.esl))]).seq ((ops 0 [cO 5 (cM 0),cO 6 (cM 1),cO 7 (bldS 1 2 [AV.esl] [(0,1,t 5),(1,1,t 6)]),cO 8 (call (cF 58) [t 7]),cO 9 (call (cF 57) [t 8]),cO 4 (cM 9)]).seq ret)))
theorem AY:Is Tryz.prog 56 b56:=Is.mk' Tryz.func56 (by kernel_rfl)
def b57:F2:=(F2.mk 10 [RV.t 2] ((ops 0 [cO 2 (mov (c AV.esl))]).seq ((ops 0 [cO 4 (cM 0),cO 5 (call (cF 106) [t 4]),cO 3 (cM 5)]).seq ((ops 0 [cO 6 (cM 3),cO 7 (call (cF 107) [t 6,c (AV.func 64 [])])]).seq ((ops 0 [cO 8 (cM 3),cO 9 (call (cF 108) [t 8,c (AV.func 15 [])]),cO 2 (cM 9)]).seq ret)))))
theorem BA:Is Tryz.prog 57 b57:=Is.mk' Tryz.func57 (by kernel_rfl)
def b58:F2:=(F2.mk 36 [RV.t 2] ((ops 0 [cO 2 (mov (c AV.esl))]).seq ((ops 0 [cO 3 (mov (cN 0))]).seq (((ops 0 [cO 9 (cM 0),cO 10 (lenS (t 9)),cO 11 (mov (cN 0))]).seq (block 0 ((ops 0 [cO 12 (cB .lss (t 11) (t 10))]).seq ((C2.cond (t 12) skip (exit 0)).seq ((block 1 ((ops 0 [cO 13 (ixaS 1 (t 9) (t 11)),cO 14 (cD 13),cO 5 (cM 14)]).seq ((ops 0 [cO 15 (cM 3),cO 16 (cM 5),cO 17 (lenS (t 16)),cO 18 (cB .add (t 15) (t 17)),cO 3 (cM 18)]).seq ((ops 0 [cO 19 (cM 3),cO 20 (cB .lss (t 19) (cN 0))]).seq (C2.cond (t 20) (ops 0 [cO 21 dead,Op2.mk none none dead]) skip))))).seq (ops 0 [cO 22 (cB .add (t 11) (cN 1)),cO 11 (cM 22)])))).loop)).seq ((ops 0 [cO 23 (cM 3),cO 24 (call (cF 109) [c AV.esl,t 23]),cO 6 (cM 24)]).seq (((ops 0 [cO 25 (cM 0),cO 26 (lenS (t 25)),cO 27 (mov (cN 0))]).seq (block 2 ((ops 0 [cO 28 (cB .lss (t 27) (t 26))]).seq ((C2.cond (t 28) skip (exit 2)).seq ((block 3 ((ops 0 [cO 29 (ixaS 1 (t 25) (t 27)),cO 30 (cD 29),cO 8 (cM 30)]).seq (ops 0 [cO 31 (cM 6),cO 32 (cM 8),cO 33 (app 1 24 (t 31) (t 32)),cO 6 (cM 33)]))).seq (ops 0 [cO 34 (cB .add (t 27) (cN 1)),cO 27 (cM 34)])))).loop)).seq ((ops 0 [cO 35 (cM 6),cO 2 (cM 35)]).seq ret)))))))
theorem A9:Is Tryz.prog 58 b58:=Is.mk' Tryz.func58 (by kernel_rfl)
def b59:F2:=(F2.mk 36 [] ((ops 0 [cO 3 (box (t 0)),cO 4 (box (t 1))]).seq ((ops 0 [cO 9 (fa 3 (t 3)),cO 10 (cD 9),cO 11 (lenS (t 10)),cO 12 (mov (cN 0))]).seq (block 0 ((ops 0 [cO 13 (cB .lss (t 12) (t 11))]).seq ((C2.cond (t 13) skip (exit 0)).seq ((block 1 ((ops 0 [cO 14 (ixaS 3 (t 10) (t 12)),cO 15 (ldn 3 (t 14)),cO 6 (alloc (AV.agg [AV.esl,AV.esl,AV.esl])),Op2.mk none none (Ins.st 3 (t 6) (t 15))]).seq ((ops 0 [cO 17 (ldn 4 (t 4)),cO 18 (fa 0 (t 6)),cO 19 (cD 18),cO 20 (call (cF 41) [t 17,t 19]),cO 16 (cM 20),cO 21 (ext (t 16) 0),cO 22 (ext (t 16) 1),cO 7 (alloc (AV.agg [AV.esl,AV.esl,AV.esl])),Op2.mk none none (Ins.st 3 (t 7) (t 21)),cO 8 (cM 22)]).seq ((ops 0 [cO 23 (cM 8),cO 24 (un UnOp.not (t 23))]).seq (C2.cond (t 24) (mixS 1 [cO 25 (cD 2),cO 26 (fa 0 (t 6)),cO 27 (cD 26),cO 28 (fa 1 (t 6)),cO 29 (cD 28),cO 30 (ldn 3 (t 6)),cO 31 (call (cF 61) [t 30]),cO 32 (call (cF 60) [t 27,t 29,t 31]),cO 33 (bldS 3 1 [AV.esl,AV.esl,AV.esl] [(0,3,t 32)]),cO 34 (app 3 72 (t 25) (t 33)),Op2.mk none none (Ins.st 1 (t 2) (t 34))] [(0,0),(1,0),(2,0),(3,0),(4,0),(5,0),(6,1),(7,1),(8,1),(9,2),(10,2)]) skip))))).seq (ops 0 [cO 35 (cB .add (t 12) (cN 1)),cO 12 (cM 35)])))).loop))))
theorem AG:Is Tryz.prog 59 b59:=Is.mk' Tryz.func59 (by kernel_rfl)
def b60:F2:=(F2.mk 21 [RV.cn 6 3] ((ops 0 [cO 6 (alloc (AV.agg [AV.esl,AV.esl,AV.esl]))]).seq ((ops 0 [cO 8 (cM 0),cO 9 (call (cF 42) [t 8]),cO 10 (cM 1),cO 11 (call (cF 75) [t 10]),cO 12 (bld [AV.esl,AV.esl,AV.esl] [(0,1,t 9),(1,1,t 11)]),cO 7 (alloc (AV.agg [AV.esl,AV.esl,AV.esl])),Op2.mk none none (Ins.st 3 (t 7) (t 12))]).seq (((ops 0 [cO 13 (cM 1),cO 14 (cM 2),cO 15 (call (cF 110) [t 13,t 14,c (AV.func 15 [])]),cO 16 (un UnOp.not (t 15))]).seq (C2.cond (t 16) (ops 0 [cO 17 (cM 2),cO 18 (call (cF 75) [t 17]),cO 19 (fa 2 (t 7)),Op2.mk none none (Ins.st 1 (t 19) (t 18))]) skip)).seq ((ops 0 [cO 20 (ldn 3 (t 7)),Op2.mk none none (Ins.st 3 (t 6) (t 20))]).seq ret)))))
theorem As:Is Tryz.prog 60 b60:=Is.mk' Tryz.func60 (by kernel_rfl)
def b61:F2:=(F2.mk 11 [RV.t 2] ((ops 0 [cO 1 (box (t 0)),cO 2 (mov (c AV.esl))]).seq (((ops 0 [cO 3 (fa 2 (t 1)),cO 4 (cD 3),cO 5 (lenS (t 4)),cO 6 (cB .gtr (t 5) (cN 0))]).seq (C2.cond (t 6) ((ops 0 [cO 7 (fa 2 (t 1)),cO 8 (cD 7),cO 2 (cM 8)]).seq ret) skip)).seq ((ops 0 [cO 9 (fa 1 (t 1)),cO 10 (cD 9),cO 2 (cM 10)]).seq ret))))
theorem BF:Is Tryz.prog 61 b61:=Is.mk' Tryz.func61 (by kernel_rfl)
def b62:F2:=(F2.mk 14 [] ((ops 0 [cO 5 (cM 0),cO 6 (lenS (t 5)),cO 4 (cM 6)]).seq (ops 0 [cO 7 (cM 0),cO 8 (cM 4),cO 9 (cM 4),cO 10 (conv IntKind.u64 (t 9)),cO 11 (call (cF 112) [t 10]),cO 12 (cM 1),cO 13 (call (cF 111) [t 7,cN ((0)),t 8,t 11,t 12])])))
theorem Ak:Is Tryz.prog 62 b62:=Is.mk' Tryz.func62 (by kernel_rfl)
def b63:F2:=(F2.mk 10 [RV.t 4] ((ops 0 [cO 2 (box (t 0)),cO 3 (box (t 1)),cO 4 (mov (cN 0))]).seq ((ops 0 [cO 5 (fa 0 (t 2)),cO 6 (cD 5),cO 7 (fa 0 (t 3)),cO 8 (cD 7),cO 9 (call (cF 64) [t 6,t 8]),cO 4 (cM 9)]).seq ret)))
theorem AJ:Is Tryz.prog 63 b63:=Is.mk' Tryz.func63 (by kernel_rfl)
def b64:F2:=(F2.mk 36 [RV.t 4] ((ops 0 [cO 4 (mov (cN 0))]).seq (((ops 0 [cO 9 (cM 0),cO 10 (lenS (t 9)),cO 11 (mov (cN 0))]).seq (block 0 ((ops 0 [cO 12 (cB .lss (t 11) (t 10))]).seq ((C2.cond (t 12) skip (exit 0)).seq ((block 1 ((ops 0 [cO 13 (cM 11),cO 14 (ixaS 1 (t 9) (t 11)),cO 15 (cD 14),cO 5 (cM 13),cO 6 (cM 15)]).seq (((ops 0 [cO 16 (cM 5),cO 17 (cM 1),cO 18 (lenS (t 17)),cO 19 (cB .geq (t 16) (t 18))]).seq (C2.cond (t 19) ((ops 0 [cO 4 (mov (cN 1))]).seq ret) skip)).seq ((ops 0 [cO 20 (cM 1),cO 21 (cM 5),cO 22 (ixaS 1 (t 20) (t 21)),cO 23 (cD 22),cO 7 (cM 23)]).seq ((ops 0 [cO 24 (cM 6),cO 25 (cM 7),cO 26 (call (cF 113) [t 24,t 25]),cO 8 (cM 26)]).seq ((ops 0 [cO 27 (cM 8),cO 28 (cB .neq (t 27) (cN 0))]).seq (C2.cond (t 28) ((ops 0 [cO 29 (cM 8),cO 4 (cM 29)]).seq ret) skip))))))).seq (ops 0 [cO 30 (cB .add (t 11) (cN 1)),cO 11 (cM 30)])))).loop)).seq (((ops 0 [cO 31 (cM 0),cO 32 (lenS (t 31)),cO 33 (cM 1),cO 34 (lenS (t 33)),cO 35 (cB .lss (t 32) (t 34))]).seq (C2.cond (t 35) ((ops 0 [cO 4 (mov (cN ((-1))))]).seq ret) skip)).seq ((ops 0 [cO 4 (mov (cN 0))]).seq ret)))))
theorem AA:Is Tryz.prog 64 b64:=Is.mk' Tryz.func64 (by kernel_rfl)
def b68:F2:=(F2.mk 46 [RV.t 4] ((ops 0 [cO 4 (mov (cN 0))]).seq (((ops 0 [cO 5 (mov (cN 0))]).seq (block 0 (((ops 0 [cO 6 (cM 5),cO 7 (cM 0),cO 8 (lenS (t 7)),cO 9 (cB .lss (t 6) (t 8)),cO 10 (cM 9),cG 11 10 true (cM 5),cG 12 10 true (cM 1),cG 13 10 true (lenS (t 12)),cG 14 10 true (cB .lss (t 11) (t 13)),cO 15 (pick (t 10) (t 14) av)]).seq (C2.cond (t 15) skip (exit 0))).seq ((block 1 (((ops 1 [cO 18 (cM 0),cO 19 (cM 5),cO 20 (ixaS 1 (t 18) (t 19)),cO 21 (cD 20),cO 22 (cM 1),cO 23 (cM 5),cO 24 (ixaS 1 (t 22) (t 23)),cO 25 (cD 24),cO 26 (cB .lss (t 21) (t 25))]).seq (C2.cond (t 26) ((ops 0 [cO 4 (mov (cN ((-1))))]).seq ret) skip)).seq ((ops 1 [cO 27 (cM 0),cO 28 (cM 5),cO 29 (ixaS 1 (t 27) (t 28)),cO 30 (cD 29),cO 31 (cM 1),cO 32 (cM 5),cO 33 (ixaS 1 (t 31) (t 32)),cO 34 (cD 33),cO 35 (cB .gtr (t 30) (t 34))]).seq (C2.cond (t 35) ((ops 0 [cO 4 (mov (cN 1))]).seq ret) skip)))).seq (ops 0 [cO 16 (cM 5),cO 17 (cB .add (t 16) (cN 1)),cO 5 (cM 17)]))).loop)).seq (((ops 0 [cO 36 (cM 0),cO 37 (lenS (t 36)),cO 38 (cM 1),cO 39 (lenS (t 38)),cO 40 (cB .lss (t 37) (t 39))]).seq (C2.cond (t 40) ((ops 0 [cO 4 (mov (cN ((-1))))]).seq ret) skip)).seq (((ops 0 [cO 41 (cM 0),cO 42 (lenS (t 41)),cO 43 (cM 1),cO 44 (lenS (t 43)),cO 45 (cB .gtr (t 42) (t 44))]).seq (C2.cond (t 45) ((ops 0 [cO 4 (mov (cN 1))]).seq ret) skip)).seq ((ops 0 [cO 4 (mov (cN 0))]).seq ret))))))
theorem AU:Is Tryz.prog 68 b68:=Is.mk' Tryz.func68 (by kernel_rfl)
def b69:F2:=(F2.mk 56 [RV.t 5] ((ops 0 [cO 5 (mov (c AV.esl))]).seq ((ops 0 [cO 6 (mov (c AV.esl))]).seq (((ops 0 [cO 13 (cM 0),cO 14 (lenS (t 13)),cO 15 (mov (cN 0))]).seq (block 0 ((ops 0 [cO 16 (cB .lss (t 15) (t 14))]).seq ((C2.cond (t 16) skip (exit 0)).seq ((block 1 ((ops 0 [cO 17 (ixaS 1 (t 13) (t 15)),cO 18 (cD 17),cO 8 (cM 18)]).seq ((ops 0 [cO 19 (cM 1),cO 20 (lenS (t 19)),cO 21 (mov (cN 0))]).seq (block 2 ((ops 0 [cO 22 (cB .lss (t 21) (t 20))]).seq ((C2.cond (t 22) skip (exit 2)).seq ((block 3 ((ops 0 [cO 23 (ixaS 1 (t 19) (t 21)),cO 24 (cD 23),cO 10 (cM 24)]).seq ((ops 0 [cO 25 (cM 8),cO 26 (call (cF 42) [t 25]),cO 11 (cM 26)]).seq (((ops 0 [cO 27 (cM 11),cO 28 (lenS (t 27)),cO 29 (mov (cN 0))]).seq (block 4 ((ops 0 [cO 30 (cB .lss (t 29) (t 28))]).seq ((C2.cond (t 30) skip (exit 4)).seq ((block 5 ((ops 0 [cO 31 (cM 29),cO 12 (cM 31)]).seq (ops 1 [cO 32 (cM 11),cO 33 (cM 12),cO 34 (cM 8),cO 35 (cM 12),cO 36 (ixaS 1 (t 34) (t 35)),cO 37 (cD 36),cO 38 (fa 2 (t 2)),cO 39 (cD 38),cO 40 (cB .mul (t 37) (t 39)),cO 41 (cM 10),cO 42 (cM 12),cO 43 (ixaS 1 (t 41) (t 42)),cO 44 (cD 43),cO 45 (cB .add (t 40) (t 44)),cO 46 (ixaS 1 (t 32) (t 33)),Op2.mk none none (Ins.st 1 (t 46) (t 45))]))).seq (ops 0 [cO 47 (cB .add (t 29) (cN 1)),cO 29 (cM 47)])))).loop)).seq (ops 0 [cO 48 (cM 6),cO 49 (cM 11),cO 50 (bldS 1 1 [AV.esl] [(0,1,t 49)]),cO 51 (app 1 24 (t 48) (t 50)),cO 6 (cM 51)]))))).seq (ops 0 [cO 52 (cB .add (t 21) (cN 1)),cO 21 (cM 52)])))).loop)))).seq (ops 0 [cO 53 (cB .add (t 15) (cN 1)),cO 15 (cM 53)])))).loop)).seq ((ops 0 [cO 54 (cM 6),cO 55 (call (cF 57) [t 54]),cO 5 (cM 55)]).seq ret)))))
theorem BQ:Is Tryz.prog 69 b69:=Is.mk' Tryz.func69 (by kernel_rfl)
def b71:F2:=(F2.mk 83 [RV.t 2] ((ops 0 [cO 1 (box (t 0)),cO 2 (mov (cN 0))]).seq ((block 0 (((ops 0 [cO 8 (fa 0 (t 1)),cO 9 (cD 8),cO 10 (cB .lss (t 9) (cN 1)),cO 11 (cM 10),cG 12 11 false (fa 0 (t 1)),cG 13 11 false (cD 12),cG 14 11 false (cB .gtr (t 13) (cN 5)),cO 15 (pick (t 11) aF (t 14)),cO 7 (cM 15)]).seq (C2.cond (t 7) skip ((ops 0 [cO 16 (fa 1 (t 1)),cO 17 (cD 16),cO 18 (cB .lss (t 17) (cN 1)),cO 19 (cM 18),cG 20 19 false (fa 1 (t 1)),cG 21 19 false (cD 20),cG 22 19 false (cB .gtr (t 21) (cN 8)),cO 23 (pick (t 19) aF (t 22)),cO 7 (cM 23)]).seq (C2.cond (t 7) skip (ops 0 [cO 24 (fa 2 (t 1)),cO 25 (cD 24),cO 26 (cB .lss (t 25) (cN 1)),cO 27 (cM 26),cG 28 27 false (fa 2 (t 1)),cG 29 27 false (cD 28),cG 30 27 false (cB .gtr (t 29) (cN 8)),cO 31 (pick (t 27) aF (t 30)),cO 7 (cM 31)]))))).seq (C2.cond (t 7) ((ops 0 [cO 2 (mov (cN 2))]).seq ret) ((ops 0 [cO 33 (fa 3 (t 1)),cO 34 (cD 33),cO 35 (lenS (t 34)),cO 36 (cB .lss (t 35) (cN 1)),cO 37 (cM 36),cG 38 37 false (fa 3 (t 1)),cG 39 37 false (cD 38),cG 40 37 false (lenS (t 39)),cG 41 37 false (cB .gtr (t 40) (cN 1024)),cO 42 (pick (t 37) aF (t 41)),cO 32 (cM 42)]).seq (C2.cond (t 32) ((ops 0 [cO 2 (mov (cN 5))]).seq ret) skip))))).seq (((ops 0 [cO 43 (fa 3 (t 1)),cO 44 (cD 43),cO 45 (lenS (t 44)),cO 46 (mov (cN 0))]).seq (block 1 ((ops 0 [cO 47 (cB .lss (t 46) (t 45))]).seq ((C2.cond (t 47) skip (exit 1)).seq ((block 2 ((ops 0 [cO 48 (cM 46),cO 49 (ixaS 3 (t 44) (t 46)),cO 50 (ldn 3 (t 49)),cO 4 (alloc (AV.agg [AV.esl,AV.esl,AV.esl])),cO 3 (cM 48),Op2.mk none none (Ins.st 3 (t 4) (t 50))]).seq (((ops 0 [cO 51 (fa 0 (t 4)),cO 52 (cD 51),cO 53 (fa 0 (t 1)),cO 54 (cD 53),cO 55 (fa 1 (t 1)),cO 56 (cD 55),cO 57 (call (cF 115) [t 52,t 54,t 56]),cO 5 (cM 57)]).seq ((ops 0 [cO 58 (cM 5),cO 59 (cB .neq (t 58) (cN 0))]).seq (C2.cond (t 59) ((ops 0 [cO 60 (cM 5),cO 2 (cM 60)]).seq ret) skip))).seq (((mixS 1 [cO 61 (cM 3),cO 62 (cB .gtr (t 61) (cN 0)),cO 63 (cM 62),cG 64 63 true (fa 3 (t 1)),cG 65 63 true (cD 64),cG 66 63 true (cM 3),cG 67 63 true (cB .sub (t 66) (cN 1)),cG 68 63 true (ixaS 3 (t 65) (t 67)),cG 69 63 true (fa 0 (t 68)),cG 70 63 true (cD 69),cG 71 63 true (fa 0 (t 4)),cG 72 63 true (cD 71),cG 73 63 true (call (cF 64) [t 70,t 72]),cG 74 63 true (cB .geq (t 73) (cN 0)),cO 75 (pick (t 63) (t 74) av)] [(0,0),(1,0),(2,0),(3,0),(4,0),(5,0),(6,0),(7,0),(8,0),(9,0),(10,0),(11,0),(12,2),(13,0),(14,0)]).seq (C2.cond (t 75) ((ops 0 [cO 2 (mov (cN 14))]).seq ret) skip)).seq ((ops 0 [cO 76 (ldn 4 (t 1)),cO 77 (ldn 3 (t 4)),cO 78 (call (cF 116) [t 76,t 77]),cO 6 (cM 78)]).seq ((ops 0 [cO 79 (cM 6),cO 80 (cB .neq (t 79) (cN 0))]).seq (C2.cond (t 80) ((ops 0 [cO 81 (cM 6),cO 2 (cM 81)]).seq ret) skip))))))).seq (ops 0 [cO 82 (cB .add (t 46) (cN 1)),cO 46 (cM 82)])))).loop)).seq ((ops 0 [cO 2 (mov (cN 0))]).seq ret)))))
theorem BH:Is Tryz.prog 71 b71:=Is.mk' Tryz.func71 (by kernel_rfl)
def b72:F2:=(F2.mk 9 [RV.t 4] ((ops 0 [cO 4 (mov av)]).seq ((ops 0 [cO 5 (cM 0),cO 6 (cM 1),cO 7 (call (cF 117) [t 5,t 6]),cO 8 (cB .geq (t 7) (cN 0)),cO 4 (cM 8)]).seq ret)))
theorem AO:Is Tryz.prog 72 b72:=Is.mk' Tryz.func72 (by kernel_rfl)
def b73:F2:=(F2.mk 11 [RV.t 3] ((ops 0 [cO 3 (mov av)]).seq ((ops 0 [cO 4 (cM 0),cO 5 (cB .lss (t 4) (cN 0)),cO 6 (cM 5),cG 7 6 false (cM 0),cG 8 6 false (cD 1),cG 9 6 false (cB .geq (t 7) (t 8)),cO 10 (pick (t 6) aF (t 9)),cO 3 (cM 10)]).seq ret)))
theorem BU:Is Tryz.prog 73 b73:=Is.mk' Tryz.func73 (by kernel_rfl)
def b74:F2:=(F2.mk 35 [RV.t 3] ((ops 0 [cO 3 (mov (c AV.esl))]).seq ((ops 0 [cO 8 (cM 0),cO 9 (call (cF 75) [t 8]),cO 4 (cM 9)]).seq (((ops 0 [cO 10 (cM 4),cO 11 (lenS (t 10)),cO 12 (mov (cN 0))]).seq (block 0 ((ops 0 [cO 13 (cB .lss (t 12) (t 11))]).seq ((C2.cond (t 13) skip (exit 0)).seq ((block 1 ((ops 0 [cO 14 (ixaS 1 (t 10) (t 12)),cO 15 (cD 14),cO 6 (cM 15)]).seq ((ops 0 [cO 16 (cM 6),cO 17 (lenS (t 16)),cO 18 (mov (cN 0))]).seq (block 2 ((ops 0 [cO 19 (cB .lss (t 18) (t 17))]).seq ((C2.cond (t 19) skip (exit 2)).seq ((block 3 ((ops 0 [cO 20 (cM 18),cO 7 (cM 20)]).seq (ops 1 [cO 21 (cM 6),cO 22 (cM 7),cO 23 (cD 1),cO 24 (cM 6),cO 25 (cM 7),cO 26 (ixaS 1 (t 24) (t 25)),cO 27 (cD 26),cO 28 (ixaS 1 (t 23) (t 27)),cO 29 (cD 28),cO 30 (ixaS 1 (t 21) (t 22)),Op2.mk none none (Ins.st 1 (t 30) (t 29))]))).seq (ops 0 [cO 31 (cB .add (t 18) (cN 1)),cO 18 (cM 31)])))).loop)))).seq (ops 0 [cO 32 (cB .add (t 12) (cN 1)),cO 12 (cM 32)])))).loop)).seq ((ops 0 [cO 33 (cM 4),cO 34 (call (cF 57) [t 33]),cO 3 (cM 34)]).seq ret)))))
theorem B4:Is Tryz.prog 74 b74:=Is.mk' Tryz.func74 (by kernel_rfl)
def b75:F2:=(F2.mk 19 [RV.t 2] ((ops 0 [cO 2 (mov (c AV.esl))]).seq ((ops 0 [cO 3 (mov (c AV.esl))]).seq (((ops 0 [cO 6 (cM 0),cO 7 (lenS (t 6)),cO 8 (mov (cN 0))]).seq (block 0 ((ops 0 [cO 9 (cB .lss (t 8) (t 7))]).seq ((C2.cond (t 9) skip (exit 0)).seq ((block 1 ((ops 0 [cO 10 (ixaS 1 (t 6) (t 8)),cO 11 (cD 10),cO 5 (cM 11)]).seq (ops 0 [cO 12 (cM 3),cO 13 (cM 5),cO 14 (call (cF 42) [t 13]),cO 15 (bldS 1 1 [AV.esl] [(0,1,t 14)]),cO 16 (app 1 24 (t 12) (t 15)),cO 3 (cM 16)]))).seq (ops 0 [cO 17 (cB .add (t 8) (cN 1)),cO 8 (cM 17)])))).loop)).seq ((ops 0 [cO 18 (cM 3),cO 2 (cM 18)]).seq ret)))))
theorem Av:Is Tryz.prog 75 b75:=Is.mk' Tryz.func75 (by kernel_rfl)
def b77:F2:=(F2.mk 12 [RV.t 2,RV.t 3] ((ops 0 [cO 2 (mov (c AV.esl)),cO 3 (mov (cN 0))]).seq (((ops 0 [cO 5 (cM 0),cO 6 (call (cF 118) [t 5]),cO 4 (cM 6)]).seq ((ops 0 [cO 7 (cM 4),cO 8 (cB .neq (t 7) (cN 0))]).seq (C2.cond (t 8) ((ops 0 [cO 9 (cM 4),cO 2 (mov (c AV.esl)),cO 3 (cM 9)]).seq ret) skip))).seq ((ops 0 [cO 10 (cM 0),cO 11 (call (cF 119) [t 10,c AV.esl]),cO 2 (cM 11),cO 3 (mov (cN 0))]).seq ret))))
theorem BX:Is Tryz.prog 77 b77:=Is.mk' Tryz.func77 (by kernel_rfl)
def b78:F2:=(F2.mk 19 [RV.t 3] ((ops 0 [cO 3 (mov av)]).seq ((ops 0 [cO 7 (ldn 4 (t 1)),cO 8 (cM 0),cO 9 (call (cF 33) [t 7,t 8]),cO 6 (cM 9),cO 10 (ext (t 6) 0),cO 11 (ext (t 6) 1),cO 4 (alloc (AV.agg [AV.int IntKind.i64 (0),AV.int IntKind.i64 (0),AV.int IntKind.i64 (0),AV.esl])),Op2.mk none none (Ins.st 4 (t 4) (t 10)),cO 5 (cM 11)]).seq ((ops 0 [cO 12 (cM 5),cO 13 (cB .eql (t 12) (cN 0)),cO 14 (cM 13),cG 15 14 true (ldn 4 (t 1)),cG 16 14 true (ldn 4 (t 4)),cG 17 14 true (call (cF 79) [t 15,t 16]),cO 18 (pick (t 14) (t 17) av),cO 3 (cM 18)]).seq ret))))
theorem BV:Is Tryz.prog 78 b78:=Is.mk' Tryz.func78 (by kernel_rfl)
def b79:F2:=(F2.mk 33 [RV.t 4] ((ops 0 [cO 2 (box (t 0)),cO 3 (box (t 1)),cO 4 (mov av)]).seq ((ops 0 [cO 5 (alloc AV.nilf),Op2.mk none none (Ins.st 1 (t 5) (cF 120))]).seq ((ops 0 [cO 6 (fa 0 (t 2)),cO 7 (cD 6),cO 8 (fa 0 (t 3)),cO 9 (cD 8),cO 10 (cB .eql (t 7) (t 9)),cO 11 (cM 10),cG 12 11 true (fa 1 (t 2)),cG 13 11 true (cD 12),cG 14 11 true (fa 1 (t 3)),cG 15 11 true (cD 14),cG 16 11 true (cB .eql (t 13) (t 15)),cO 17 (pick (t 11) (t 16) av),cO 18 (cM 17),cG 19 18 true (fa 2 (t 2)),cG 20 18 true (cD 19),cG 21 18 true (fa 2 (t 3)),cG 22 18 true (cD 21),cG 23 18 true (cB .eql (t 20) (t 22)),cO 24 (pick (t 18) (t 23) av),cO 25 (cM 24),cG 26 25 true (fa 3 (t 2)),cG 27 25 true (cD 26),cG 28 25 true (fa 3 (t 3)),cG 29 25 true (cD 28),cG 30 25 true (mkfn 121 [t 5]),cG 31 25 true (call (cF 83) [t 27,t 29,t 30]),cO 32 (pick (t 25) (t 31) av),cO 4 (cM 32)]).seq ret))))
theorem B6:Is Tryz.prog 79 b79:=Is.mk' Tryz.func79 (by kernel_rfl)
def b82:F2:=(F2.mk 120 [RV.t 4] ((ops 0 [cO 2 (box (t 0)),cO 4 (mov (cN 0))]).seq ((ops 0 [cO 10 (fa 3 (t 2)),cO 11 (cD 10),cO 12 (cM 1),cO 13 (ixaS 3 (t 11) (t 12)),cO 14 (ldn 3 (t 13)),cO 5 (alloc (AV.agg [AV.esl,AV.esl,AV.esl])),Op2.mk none none (Ins.st 3 (t 5) (t 14))]).seq (((ops 0 [cO 15 (fa 0 (t 5)),cO 16 (cD 15),cO 17 (fa 0 (t 2)),cO 18 (cD 17),cO 19 (fa 1 (t 2)),cO 20 (cD 19),cO 21 (call (cF 125) [t 16,t 18,t 20]),cO 6 (cM 21)]).seq ((ops 0 [cO 22 (cM 6),cO 23 (cB .neq (t 22) (cN 0))]).seq (C2.cond (t 23) ((ops 0 [cO 24 (cM 6),cO 4 (cM 24)]).seq ret) skip))).seq (((mixS 1 [cO 25 (cM 1),cO 26 (cB .gtr (t 25) (cN 0)),cO 27 (cM 26),cG 28 27 true (fa 3 (t 2)),cG 29 27 true (cD 28),cG 30 27 true (cM 1),cG 31 27 true (cB .sub (t 30) (cN 1)),cG 32 27 true (ixaS 3 (t 29) (t 31)),cG 33 27 true (fa 0 (t 32)),cG 34 27 true (cD 33),cG 35 27 true (fa 0 (t 5)),cG 36 27 true (cD 35),cG 37 27 true (call (cF 68) [t 34,t 36]),cG 38 27 true (cB .geq (t 37) (cN 0)),cO 39 (pick (t 27) (t 38) av)] [(0,0),(1,0),(2,0),(3,0),(4,0),(5,0),(6,0),(7,0),(8,0),(9,0),(10,0),(11,0),(12,2),(13,0),(14,0)]).seq (C2.cond (t 39) ((ops 0 [cO 4 (mov (cN 14))]).seq ret) skip)).seq (((ops 0 [cO 40 (fa 1 (t 5)),cO 41 (cD 40),cO 42 (lenS (t 41)),cO 43 (cB .lss (t 42) (cN 1)),cO 44 (cM 43),cG 45 44 false (fa 1 (t 5)),cG 46 44 false (cD 45),cG 47 44 false (lenS (t 46)),cG 48 44 false (cB .gtr (t 47) (cN 1024)),cO 49 (pick (t 44) aF (t 48))]).seq (C2.cond (t 49) ((ops 0 [cO 4 (mov (cN 5))]).seq ret) skip)).seq (((ops 0 [cO 7 (mov (cN 0))]).seq (block 0 (((ops 0 [cO 50 (cM 7),cO 51 (fa 1 (t 5)),cO 52 (cD 51),cO 53 (lenS (t 52)),cO 54 (cB .lss (t 50) (t 53))]).seq (C2.cond (t 54) skip (exit 0))).seq ((block 1 (((mixS 1 [cO 57 (fa 1 (t 5)),cO 58 (cD 57),cO 59 (cM 7),cO 60 (ixaS 1 (t 58) (t 59)),cO 61 (cD 60),cO 62 (fa 0 (t 2)),cO 63 (cD 62),cO 64 (fa 2 (t 2)),cO 65 (cD 64),cO 66 (call (cF 125) [t 61,t 63,t 65]),cO 8 (cM 66)] [(0,0),(1,0),(2,0),(3,0),(4,0),(5,0),(6,0),(7,0),(8,0),(9,2),(10,0)]).seq ((ops 0 [cO 67 (cM 8),cO 68 (cB .neq (t 67) (cN 0))]).seq (C2.cond (t 68) ((ops 0 [cO 69 (cM 8),cO 4 (cM 69)]).seq ret) skip))).seq ((mixS 1 [cO 70 (cM 7),cO 71 (cB .gtr (t 70) (cN 0)),cO 72 (cM 71),cG 73 72 true (fa 1 (t 5)),cG 74 72 true (cD 73),cG 75 72 true (cM 7),cG 76 72 true (cB .sub (t 75) (cN 1)),cG 77 72 true (ixaS 1 (t 74) (t 76)),cG 78 72 true (cD 77),cG 79 72 true (fa 1 (t 5)),cG 80 72 true (cD 79),cG 81 72 true (cM 7),cG 82 72 true (ixaS 1 (t 80) (t 81)),cG 83 72 true (cD 82),cG 84 72 true (call (cF 68) [t 78,t 83]),cG 85 72 true (cB .geq (t 84) (cN 0)),cO 86 (pick (t 72) (t 85) av)] [(0,0),(1,0),(2,0),(3,0),(4,0),(5,0),(6,0),(7,0),(8,0),(9,0),(10,0),(11,0),(12,0),(13,0),(14,2),(15,0),(16,0)]).seq (C2.cond (t 86) ((ops 0 [cO 4 (mov (cN 14))]).seq ret) skip)))).seq (ops 0 [cO 55 (cM 7),cO 56 (cB .add (t 55) (cN 1)),cO 7 (cM 56)]))).loop)).seq (((ops 0 [cO 9 (mov (cN 0))]).seq (block 2 (((ops 0 [cO 87 (cM 9),cO 88 (fa 2 (t 5)),cO 89 (cD 88),cO 90 (lenS (t 89)),cO 91 (cB .lss (t 87) (t 90))]).seq (C2.cond (t 91) skip (exit 2))).seq ((block 3 (((mixS 1 [cO 94 (fa 1 (t 5)),cO 95 (cD 94),cO 96 (fa 2 (t 5)),cO 97 (cD 96),cO 98 (cM 9),cO 99 (ixaS 1 (t 97) (t 98)),cO 100 (cD 99),cO 101 (call (cF 105) [t 95,t 100]),cO 102 (un UnOp.not (t 101))] [(0,0),(1,0),(2,0),(3,0),(4,0),(5,0),(6,0),(7,2),(8,0)]).seq (C2.cond (t 102) ((ops 0 [cO 4 (mov (cN 6))]).seq ret) skip)).seq ((mixS 1 [cO 103 (cM 9),cO 104 (cB .gtr (t 103) (cN 0)),cO 105 (cM 104),cG 106 105 true (fa 2 (t 5)),cG 107 105 true (cD 106),cG 108 105 true (cM 9),cG 109 105 true (cB .sub (t 108) (cN 1)),cG 110 105 true (ixaS 1 (t 107) (t 109)),cG 111 105 true (cD 110),cG 112 105 true (fa 2 (t 5)),cG 113 105 true (cD 112),cG 114 105 true (cM 9),cG 115 105 true (ixaS 1 (t 113) (t 114)),cG 116 105 true (cD 115),cG 117 105 true (call (cF 68) [t 111,t 116]),cG 118 105 true (cB .geq (t 117) (cN 0)),cO 119 (pick (t 105) (t 118) av)] [(0,0),(1,0),(2,0),(3,0),(4,0),(5,0),(6,0),(7,0),(8,0),(9,0),(10,0),(11,0),(12,0),(13,0),(14,2),(15,0),(16,0)]).seq (C2.cond (t 119) ((ops 0 [cO 4 (mov (cN 14))]).seq ret) skip)))).seq (ops 0 [cO 92 (cM 9),cO 93 (cB .add (t 92) (cN 1)),cO 9 (cM 93)]))).loop)).seq ((ops 0 [cO 4 (mov (cN 0))]).seq ret)))))))))
theorem BR:Is Tryz.prog 82 b82:=Is.mk' Tryz.func82 (by kernel_rfl)
def b83:F2:=(F2.mk 32 [RV.t 6] ((ops 0 [cO 6 (mov av)]).seq (((ops 0 [cO 10 (cM 0),cO 11 (lenS (t 10)),cO 12 (cM 1),cO 13 (lenS (t 12)),cO 14 (cB .neq (t 11) (t 13))]).seq (C2.cond (t 14) ((ops 0 [cO 6 (mov av)]).seq ret) skip)).seq (((ops 0 [cO 15 (cM 0),cO 16 (lenS (t 15)),cO 17 (mov (cN 0))]).seq (block 0 ((ops 0 [cO 18 (cB .lss (t 17) (t 16))]).seq ((C2.cond (t 18) skip (exit 0)).seq ((block 1 ((ops 0 [cO 19 (cM 17),cO 20 (ixaS 3 (t 15) (t 17)),cO 21 (ldn 3 (t 20)),cO 8 (alloc (AV.agg [AV.esl,AV.esl,AV.esl])),cO 7 (cM 19),Op2.mk none none (Ins.st 3 (t 8) (t 21))]).seq ((ops 0 [cO 22 (cM 1),cO 23 (cM 7),cO 24 (ixaS 3 (t 22) (t 23)),cO 25 (ldn 3 (t 24)),cO 9 (alloc (AV.agg [AV.esl,AV.esl,AV.esl])),Op2.mk none none (Ins.st 3 (t 9) (t 25))]).seq ((ops 0 [cO 26 (cM 2),cO 27 (ldn 3 (t 8)),cO 28 (ldn 3 (t 9)),cO 29 (call (t 26) [t 27,t 28]),cO 30 (un UnOp.not (t 29))]).seq (C2.cond (t 30) ((ops 0 [cO 6 (mov av)]).seq ret) skip))))).seq (ops 0 [cO 31 (cB .add (t 17) (cN 1)),cO 17 (cM 31)])))).loop)).seq ((ops 0 [cO 6 (mov aF)]).seq ret)))))
theorem Al:Is Tryz.prog 83 b83:=Is.mk' Tryz.func83 (by kernel_rfl)
def b84:F2:=(F2.mk 10 [RV.t 4] ((ops 0 [cO 2 (box (t 0)),cO 3 (box (t 1)),cO 4 (mov av)]).seq ((ops 0 [cO 5 (fa 0 (t 2)),cO 6 (cD 5),cO 7 (fa 0 (t 3)),cO 8 (cD 7),cO 9 (call (cF 15) [t 6,t 8]),cO 4 (cM 9)]).seq ret)))
theorem Ci:Is Tryz.prog 84 b84:=Is.mk' Tryz.func84 (by kernel_rfl)
def b86:F2:=(F2.mk 33 [RV.t 2] ((ops 0 [cO 2 (mov (cN 0))]).seq (((ops 0 [cO 7 (cM 0),cO 8 (lenS (t 7)),cO 9 (call (cF 118) [t 8]),cO 3 (cM 9)]).seq ((ops 0 [cO 10 (cM 3),cO 11 (cB .neq (t 10) (cN 0))]).seq (C2.cond (t 11) ((ops 0 [cO 12 (cM 3),cO 2 (cM 12)]).seq ret) skip))).seq ((ops 0 [cO 4 (alloc (AV.agg [AV.bool false,AV.bool false,AV.bool false,AV.bool false,AV.bool false]))]).seq (((ops 0 [cO 13 (cM 0),cO 14 (lenS (t 13)),cO 15 (mov (cN 0))]).seq (block 0 ((ops 0 [cO 16 (cB .lss (t 15) (t 14))]).seq ((C2.cond (t 16) skip (exit 0)).seq ((block 1 ((ops 0 [cO 17 (ixaS 1 (t 13) (t 15)),cO 18 (cD 17),cO 6 (cM 18)]).seq (((ops 0 [cO 19 (cM 6),cO 20 (cB .lss (t 19) (cN 0)),cO 21 (cM 20),cG 22 21 false (cM 6),cG 23 21 false (cM 0),cG 24 21 false (lenS (t 23)),cG 25 21 false (cB .geq (t 22) (t 24)),cO 26 (pick (t 21) aF (t 25))]).seq (C2.cond (t 26) ((ops 0 [cO 2 (mov (cN 2))]).seq ret) skip)).seq (((ops 0 [cO 27 (cM 6),cO 28 (ixaA 5 1 (t 4) (t 27)),cO 29 (cD 28)]).seq (C2.cond (t 29) ((ops 0 [cO 2 (mov (cN 7))]).seq ret) skip)).seq (ops 0 [cO 30 (cM 6),cO 31 (ixaA 5 1 (t 4) (t 30)),Op2.mk none none (Ins.st 1 (t 31) aF)]))))).seq (ops 0 [cO 32 (cB .add (t 15) (cN 1)),cO 15 (cM 32)])))).loop)).seq ((ops 0 [cO 2 (mov (cN 0))]).seq ret))))))
theorem B8:Is Tryz.prog 86 b86:=Is.mk' Tryz.func86 (by kernel_rfl)
def b87:F2:=(F2.mk 30 [RV.t 4] ((ops 0 [cO 4 (mov (c AV.esl))]).seq ((ops 0 [cO 5 (mov (c AV.esl))]).seq (((ops 0 [cO 10 (cM 0),cO 11 (lenS (t 10)),cO 12 (mov (cN 0))]).seq (block 0 ((ops 0 [cO 13 (cB .lss (t 12) (t 11))]).seq ((C2.cond (t 13) skip (exit 0)).seq ((block 1 ((ops 0 [cO 14 (ixaS 1 (t 10) (t 12)),cO 15 (cD 14),cO 7 (cM 15)]).seq ((ops 0 [cO 17 (cM 1),cO 18 (cM 7),cO 19 (call (cF 126) [t 17,t 18]),cO 16 (cM 19),cO 20 (ext (t 16) 0),cO 21 (ext (t 16) 1),cO 8 (cM 20),cO 9 (cM 21)]).seq (ops 0 [cO 22 (cM 5),cO 23 (cM 8),cO 24 (bldS 1 1 [AV.esl] [(0,1,t 23)]),cO 25 (app 1 24 (t 22) (t 24)),cO 5 (cM 25)])))).seq (ops 0 [cO 26 (cB .add (t 12) (cN 1)),cO 12 (cM 26)])))).loop)).seq ((ops 0 [cO 27 (cM 5),cO 28 (call (cF 107) [t 27,c (AV.func 64 [])])]).seq ((ops 0 [cO 29 (cM 5),cO 4 (cM 29)]).seq ret))))))
theorem B1:Is Tryz.prog 87 b87:=Is.mk' Tryz.func87 (by kernel_rfl)
def b88:F2:=(F2.mk 10 [RV.t 4] ((ops 0 [cO 2 (box (t 0)),cO 3 (box (t 1)),cO 4 (mov (cN 0))]).seq ((ops 0 [cO 5 (fa 0 (t 2)),cO 6 (cD 5),cO 7 (fa 0 (t 3)),cO 8 (cD 7),cO 9 (call (cF 64) [t 6,t 8]),cO 4 (cM 9)]).seq ret)))
theorem B7:Is Tryz.prog 88 b88:=Is.mk' Tryz.func88 (by kernel_rfl)
def b96:F2:=(F2.mk 9 [RV.t 4] ((ops 0 [cO 4 (mov av)]).seq ((ops 0 [cO 5 (cM 0),cO 6 (cM 1),cO 7 (call (cF 127) [t 5,t 6]),cO 8 (cB .geq (t 7) (cN 0)),cO 4 (cM 8)]).seq ret)))
theorem Bx:Is Tryz.prog 96 b96:=Is.mk' Tryz.func96 (by kernel_rfl)
def b99:F2:=(F2.mk 22 [RV.t 4] ((ops 0 [cO 4 (mov av)]).seq (((ops 0 [cO 6 (cM 0),cO 7 (lenS (t 6)),cO 8 (cM 1),cO 9 (cB .gtr (t 7) (t 8))]).seq (C2.cond (t 9) ((ops 0 [cO 4 (mov av)]).seq ret) skip)).seq (((ops 0 [cO 5 (mov (cN 0))]).seq (block 0 (((ops 0 [cO 10 (cM 5),cO 11 (cM 0),cO 12 (lenS (t 11)),cO 13 (cB .lss (t 10) (t 12))]).seq (C2.cond (t 13) skip (exit 0))).seq ((block 1 ((ops 0 [cO 16 (cM 0),cO 17 (cM 5),cO 18 (ixaS 1 (t 16) (t 17)),cO 19 (cD 18),cO 20 (lenS (t 19)),cO 21 (cB .gtr (t 20) (cN 10))]).seq (C2.cond (t 21) ((ops 0 [cO 4 (mov av)]).seq ret) skip))).seq (ops 0 [cO 14 (cM 5),cO 15 (cB .add (t 14) (cN 1)),cO 5 (cM 15)]))).loop)).seq ((ops 0 [cO 4 (mov aF)]).seq ret)))))
theorem Cc:Is Tryz.prog 99 b99:=Is.mk' Tryz.func99 (by kernel_rfl)
def yY:F2:=(F2.mk 19 [RV.t 4] ((ops 0 [cO 4 (mov (cN 0))]).seq (((ops 0 [cO 6 (cM 0),cO 7 (lenS (t 6)),cO 8 (mov (cN 0))]).seq (block 0 ((ops 0 [cO 9 (cB .lss (t 8) (t 7))]).seq ((C2.cond (t 9) skip (exit 0)).seq ((block 1 ((ops 0 [cO 10 (cM 8),cO 5 (cM 10)]).seq ((ops 0 [cO 11 (cM 1),cO 12 (cM 0),cO 13 (cM 5),cO 14 (ixaS 3 (t 12) (t 13)),cO 15 (ldn 3 (t 14)),cO 16 (call (t 11) [t 15])]).seq (C2.cond (t 16) ((ops 0 [cO 17 (cM 5),cO 4 (cM 17)]).seq ret) skip)))).seq (ops 0 [cO 18 (cB .add (t 8) (cN 1)),cO 8 (cM 18)])))).loop)).seq ((ops 0 [cO 4 (mov (cN ((-1))))]).seq ret))))
theorem xU:Is Tryz.prog 100 yY:=Is.mk' Tryz.func100 (by kernel_rfl)
def z6:F2:=(F2.mk 8 [RV.t 3] ((ops 0 [cO 2 (box (t 0)),cO 3 (mov av)]).seq ((ops 0 [cO 4 (fa 0 (t 2)),cO 5 (cD 4),cO 6 (cD 1),cO 7 (call (cF 15) [t 5,t 6]),cO 3 (cM 7)]).seq ret)))
theorem x2:Is Tryz.prog 101 z6:=Is.mk' Tryz.func101 (by kernel_rfl)
def yN:F2:=(F2.mk 28 [RV.t 4] ((ops 0 [cO 4 (mov av)]).seq (((ops 0 [cO 6 (cD 1),cO 7 (lenS (t 6)),cO 8 (mov (cN 0))]).seq (block 0 ((ops 0 [cO 9 (cB .lss (t 8) (t 7))]).seq ((C2.cond (t 9) skip (exit 0)).seq ((block 1 ((ops 0 [cO 10 (cM 8),cO 5 (cM 10)]).seq ((ops 1 [cO 11 (cD 2),cO 12 (cM 5),cO 13 (cB .shr (t 11) (t 12)),cO 14 (cB .and (t 13) (cN 1)),cO 15 (cB .eql (t 14) (cN 0)),cO 16 (cM 15),cG 17 16 true (cD 1),cG 18 16 true (cM 5),cG 19 16 true (ixaS 1 (t 17) (t 18)),cG 20 16 true (cD 19),cG 21 16 true (cM 0),cG 22 16 true (cM 5),cG 23 16 true (ixaS 1 (t 21) (t 22)),cG 24 16 true (cD 23),cG 25 16 true (cB .neq (t 20) (t 24)),cO 26 (pick (t 16) (t 25) av)]).seq (C2.cond (t 26) ((ops 0 [cO 4 (mov av)]).seq ret) skip)))).seq (ops 0 [cO 27 (cB .add (t 8) (cN 1)),cO 8 (cM 27)])))).loop)).seq ((ops 0 [cO 4 (mov aF)]).seq ret))))
theorem yK:Is Tryz.prog 102 yN:=Is.mk' Tryz.func102 (by kernel_rfl)
def yR:F2:=(F2.mk 7 [RV.t 3] ((ops 0 [cO 3 (mov av)]).seq ((ops 0 [cO 4 (cD 1),cO 5 (cM 0),cO 6 (call (cF 15) [t 4,t 5]),cO 3 (cM 6)]).seq ret)))
theorem ym:Is Tryz.prog 104 yR:=Is.mk' Tryz.func104 (by kernel_rfl)
def BG:F2:=(F2.mk 19 [RV.t 4] ((ops 0 [cO 4 (mov av)]).seq (((ops 0 [cO 5 (mov (cN 0))]).seq (block 0 (((ops 0 [cO 6 (cM 5),cO 7 (cM 0),cO 8 (lenS (t 7)),cO 9 (cB .lss (t 6) (t 8))]).seq (C2.cond (t 9) skip (exit 0))).seq ((block 1 ((ops 0 [cO 12 (cM 0),cO 13 (cM 5),cO 14 (ixaS 1 (t 12) (t 13)),cO 15 (cD 14),cO 16 (cM 1),cO 17 (call (cF 68) [t 15,t 16]),cO 18 (cB .eql (t 17) (cN 0))]).seq (C2.cond (t 18) ((ops 0 [cO 4 (mov aF)]).seq ret) skip))).seq (ops 0 [cO 10 (cM 5),cO 11 (cB .add (t 10) (cN 1)),cO 5 (cM 11)]))).loop)).seq ((ops 0 [cO 4 (mov av)]).seq ret))))
theorem Bh:Is Tryz.prog 105 BG:=Is.mk' Tryz.func105 (by kernel_rfl)
def wO:F2:=(F2.mk 8 [RV.t 2] ((ops 0 [cO 2 (mov (c AV.esl))]).seq (((ops 0 [cO 3 (cM 0),cO 4 (snil false (t 3))]).seq (C2.cond (t 4) ((ops 0 [cO 2 (mov (c AV.esl))]).seq ret) skip)).seq ((ops 0 [cO 5 (bldS 1 0 [AV.esl] []),cO 6 (cM 0),cO 7 (app 1 24 (t 5) (t 6)),cO 2 (cM 7)]).seq ret))))
theorem vG:Is Tryz.prog 106 wO:=Is.mk' Tryz.func106 (by kernel_rfl)
def wZ:F2:=(F2.mk 14 [] ((ops 0 [cO 5 (cM 0),cO 6 (lenS (t 5)),cO 4 (cM 6)]).seq (ops 0 [cO 7 (cM 0),cO 8 (cM 4),cO 9 (cM 4),cO 10 (conv IntKind.u64 (t 9)),cO 11 (call (cF 112) [t 10]),cO 12 (cM 1),cO 13 (call (cF 130) [t 7,cN ((0)),t 8,t 11,t 12])])))
theorem v7:Is Tryz.prog 107 wZ:=Is.mk' Tryz.func107 (by kernel_rfl)
def wY:F2:=(F2.mk 66 [RV.t 4] ((ops 0 [cO 4 (mov (c AV.esl))]).seq (((ops 0 [cO 8 (cM 0),cO 9 (lenS (t 8)),cO 10 (cB .lss (t 9) (cN 2))]).seq (C2.cond (t 10) ((ops 0 [cO 11 (cM 0),cO 4 (cM 11)]).seq ret) skip)).seq (((ops 0 [cO 5 (mov (cN 1))]).seq (block 0 (((ops 0 [cO 12 (cM 5),cO 13 (cM 0),cO 14 (lenS (t 13)),cO 15 (cB .lss (t 12) (t 14))]).seq (C2.cond (t 15) skip (exit 0))).seq ((block 1 ((mixS 1 [cO 18 (cM 1),cO 19 (cM 0),cO 20 (cM 5),cO 21 (ixaS 1 (t 19) (t 20)),cO 22 (cD 21),cO 23 (cM 0),cO 24 (cM 5),cO 25 (cB .sub (t 24) (cN 1)),cO 26 (ixaS 1 (t 23) (t 25)),cO 27 (cD 26),cO 28 (call (t 18) [t 22,t 27])] [(0,0),(1,0),(2,0),(3,0),(4,0),(5,0),(6,0),(7,0),(8,0),(9,0),(10,2)]).seq (C2.cond (t 28) ((ops 0 [cO 29 (cM 0),cO 30 (cM 5),cO 31 (sls 1 (t 29) (some (t 30)) none none),cO 6 (cM 31)]).seq (((ops 0 [cO 7 (mov (cN 1))]).seq (block 2 (((ops 0 [cO 32 (cM 7),cO 33 (cM 6),cO 34 (lenS (t 33)),cO 35 (cB .lss (t 32) (t 34))]).seq (C2.cond (t 35) skip (exit 2))).seq ((block 3 ((mixS 1 [cO 38 (cM 1),cO 39 (cM 6),cO 40 (cM 7),cO 41 (ixaS 1 (t 39) (t 40)),cO 42 (cD 41),cO 43 (cM 6),cO 44 (cM 7),cO 45 (cB .sub (t 44) (cN 1)),cO 46 (ixaS 1 (t 43) (t 45)),cO 47 (cD 46),cO 48 (call (t 38) [t 42,t 47]),cO 49 (un UnOp.not (t 48))] [(0,0),(1,0),(2,0),(3,0),(4,0),(5,0),(6,0),(7,0),(8,0),(9,0),(10,2),(11,0)]).seq (C2.cond (t 49) ((ops 0 [cO 50 (cM 0),cO 51 (cM 5),cO 52 (cM 6),cO 53 (cM 7),cO 54 (ixaS 1 (t 52) (t 53)),cO 55 (cD 54),cO 56 (ixaS 1 (t 50) (t 51)),Op2.mk none none (Ins.st 1 (t 56) (t 55))]).seq (ops 0 [cO 57 (cM 5),cO 58 (cB .add (t 57) (cN 1)),cO 5 (cM 58)])) skip))).seq (ops 0 [cO 36 (cM 7),cO 37 (cB .add (t 36) (cN 1)),cO 7 (cM 37)]))).loop)).seq ((ops 0 [cO 59 (cM 0),cO 60 (cM 5),cO 61 (sls 1 (t 59) (some (t 60)) none none),Op2.mk none none (clr 1 AV.esl (t 61))]).seq ((ops 0 [cO 62 (cM 0),cO 63 (cM 5),cO 64 (sls 1 (t 62) none (some (t 63)) none),cO 4 (cM 64)]).seq ret)))) skip))).seq (ops 0 [cO 16 (cM 5),cO 17 (cB .add (t 16) (cN 1)),cO 5 (cM 17)]))).loop)).seq ((ops 0 [cO 65 (cM 0),cO 4 (cM 65)]).seq ret)))))
theorem vO:Is Tryz.prog 108 wY:=Is.mk' Tryz.func108 (by kernel_rfl)
def zn:F2:=(F2.mk 27 [RV.t 4] ((ops 0 [cO 4 (mov (c AV.esl))]).seq (((ops 0 [cO 5 (cM 1),cO 6 (cB .lss (t 5) (cN 0))]).seq (C2.cond (t 6) (ops 0 [cO 7 dead,Op2.mk none none dead]) skip)).seq (((ops 0 [cO 8 (cM 1),cO 9 (cM 0),cO 10 (capE (t 9)),cO 11 (cM 0),cO 12 (lenS (t 11)),cO 13 (cB .sub (t 10) (t 12)),cO 14 (cB .sub (t 8) (t 13)),cO 1 (cM 14)]).seq ((ops 0 [cO 15 (cM 1),cO 16 (cB .gtr (t 15) (cN 0))]).seq (C2.cond (t 16) (ops 0 [cO 17 (cM 0),cO 18 (cM 0),cO 19 (capE (t 18)),cO 20 (sls 1 (t 17) none (some (t 19)) none),cO 21 (cM 1),cO 22 (apz 1 24 [AV.esl] (t 20) (t 21)),cO 23 (cM 0),cO 24 (lenS (t 23)),cO 25 (sls 1 (t 22) none (some (t 24)) none),cO 0 (cM 25)]) skip))).seq ((ops 0 [cO 26 (cM 0),cO 4 (cM 26)]).seq ret)))))
theorem yr:Is Tryz.prog 109 zn:=Is.mk' Tryz.func109 (by kernel_rfl)
def zt:F2:=(F2.mk 32 [RV.t 6] ((ops 0 [cO 6 (mov av)]).seq (((ops 0 [cO 10 (cM 0),cO 11 (lenS (t 10)),cO 12 (cM 1),cO 13 (lenS (t 12)),cO 14 (cB .neq (t 11) (t 13))]).seq (C2.cond (t 14) ((ops 0 [cO 6 (mov av)]).seq ret) skip)).seq (((ops 0 [cO 15 (cM 0),cO 16 (lenS (t 15)),cO 17 (mov (cN 0))]).seq (block 0 ((ops 0 [cO 18 (cB .lss (t 17) (t 16))]).seq ((C2.cond (t 18) skip (exit 0)).seq ((block 1 ((ops 0 [cO 19 (cM 17),cO 20 (ixaS 1 (t 15) (t 17)),cO 21 (cD 20),cO 7 (cM 19),cO 8 (cM 21)]).seq ((ops 0 [cO 22 (cM 1),cO 23 (cM 7),cO 24 (ixaS 1 (t 22) (t 23)),cO 25 (cD 24),cO 9 (cM 25)]).seq ((ops 0 [cO 26 (cM 2),cO 27 (cM 8),cO 28 (cM 9),cO 29 (call (t 26) [t 27,t 28]),cO 30 (un UnOp.not (t 29))]).seq (C2.cond (t 30) ((ops 0 [cO 6 (mov av)]).seq ret) skip))))).seq (ops 0 [cO 31 (cB .add (t 17) (cN 1)),cO 17 (cM 31)])))).loop)).seq ((ops 0 [cO 6 (mov aF)]).seq ret)))))
theorem yz:Is Tryz.prog 110 zt:=Is.mk' Tryz.func110 (by kernel_rfl)
def zN:F2:=(F2.mk 148 [] ((ops 0 [cO 10 (mov aF)]).seq ((ops 0 [cO 11 (mov aF)]).seq (block 0 (block 1 ((ops 0 [cO 21 (cM 2),cO 22 (cM 1),cO 23 (cB .sub (t 21) (t 22)),cO 12 (cM 23)]).seq (((ops 0 [cO 24 (cM 12),cO 25 (cB .leq (t 24) (cN 12))]).seq (C2.cond (t 25) ((ops 0 [cO 26 (cM 0),cO 27 (cM 1),cO 28 (cM 2),cO 29 (cM 4),cO 30 (call (cF 131) [t 26,t 27,t 28,t 29])]).seq ret) skip)).seq (((ops 0 [cO 31 (cM 3),cO 32 (cB .eql (t 31) (cN 0))]).seq (C2.cond (t 32) ((ops 0 [cO 33 (cM 0),cO 34 (cM 1),cO 35 (cM 2),cO 36 (cM 4),cO 37 (call (cF 132) [t 33,t 34,t 35,t 36])]).seq ret) skip)).seq (((ops 0 [cO 38 (cM 10),cO 39 (un UnOp.not (t 38))]).seq (C2.cond (t 39) ((ops 0 [cO 40 (cM 0),cO 41 (cM 1),cO 42 (cM 2),cO 43 (cM 4),cO 44 (call (cF 133) [t 40,t 41,t 42,t 43])]).seq (ops 0 [cO 45 (cM 3),cO 46 (cB .sub (t 45) (cN 1)),cO 3 (cM 46)])) skip)).seq ((ops 0 [cO 48 (cM 0),cO 49 (cM 1),cO 50 (cM 2),cO 51 (cM 4),cO 52 (call (cF 134) [t 48,t 49,t 50,t 51]),cO 47 (cM 52),cO 53 (ext (t 47) 0),cO 54 (ext (t 47) 1),cO 13 (cM 53),cO 14 (cM 54)]).seq (((ops 0 [cO 55 (cM 14),cO 56 (cB .eql (t 55) (cN 2))]).seq (C2.cond (t 56) ((ops 0 [cO 57 (cM 0),cO 58 (cM 1),cO 59 (cM 2),cO 60 (cM 4),cO 61 (call (cF 135) [t 57,t 58,t 59,t 60])]).seq ((ops 0 [cO 62 (cM 2),cO 63 (cB .sub (t 62) (cN 1)),cO 64 (cM 13),cO 65 (cM 1),cO 66 (cB .sub (t 64) (t 65)),cO 67 (cB .sub (t 63) (t 66)),cO 13 (cM 67)]).seq (ops 0 [cO 14 (mov (cN 1))]))) skip)).seq (((ops 0 [cO 68 (cM 10),cO 69 (cM 68),cG 70 69 true (cM 11),cO 71 (pick (t 69) (t 70) av),cO 72 (cM 71),cG 73 72 true (cM 14),cG 74 72 true (cB .eql (t 73) (cN 1)),cO 75 (pick (t 72) (t 74) av)]).seq (C2.cond (t 75) ((ops 0 [cO 76 (cM 0),cO 77 (cM 1),cO 78 (cM 2),cO 79 (cM 4),cO 80 (call (cF 136) [t 76,t 77,t 78,t 79])]).seq (C2.cond (t 80) ret skip)) skip)).seq (((mixS 1 [cO 81 (cM 1),cO 82 (cB .gtr (t 81) (cN 0)),cO 83 (cM 82),cG 84 83 true (cM 4),cG 85 83 true (cM 0),cG 86 83 true (cM 1),cG 87 83 true (cB .sub (t 86) (cN 1)),cG 88 83 true (ixaS 3 (t 85) (t 87)),cG 89 83 true (ldn 3 (t 88)),cG 90 83 true (cM 0),cG 91 83 true (cM 13),cG 92 83 true (ixaS 3 (t 90) (t 91)),cG 93 83 true (ldn 3 (t 92)),cG 94 83 true (call (t 84) [t 89,t 93]),cG 95 83 true (cB .lss (t 94) (cN 0)),cG 96 83 true (un UnOp.not (t 95)),cO 97 (pick (t 83) (t 96) av)] [(0,0),(1,0),(2,0),(3,0),(4,0),(5,0),(6,0),(7,0),(8,0),(9,0),(10,0),(11,0),(12,0),(13,2),(14,0),(15,0),(16,0)]).seq (C2.cond (t 97) ((ops 0 [cO 98 (cM 0),cO 99 (cM 1),cO 100 (cM 2),cO 101 (cM 13),cO 102 (cM 4),cO 103 (call (cF 137) [t 98,t 99,t 100,t 101,t 102]),cO 15 (cM 103)]).seq ((ops 0 [cO 104 (cM 15),cO 1 (cM 104)]).seq (exit 1))) skip)).seq ((ops 0 [cO 106 (cM 0),cO 107 (cM 1),cO 108 (cM 2),cO 109 (cM 13),cO 110 (cM 4),cO 111 (call (cF 138) [t 106,t 107,t 108,t 109,t 110]),cO 105 (cM 111),cO 112 (ext (t 105) 0),cO 113 (ext (t 105) 1),cO 16 (cM 112),cO 17 (cM 113)]).seq ((ops 0 [cO 114 (cM 17),cO 11 (cM 114)]).seq ((ops 0 [cO 115 (cM 16),cO 116 (cM 1),cO 117 (cB .sub (t 115) (t 116)),cO 118 (cM 2),cO 119 (cM 16),cO 120 (cB .sub (t 118) (t 119)),cO 18 (cM 117),cO 19 (cM 120)]).seq ((ops 0 [cO 121 (cM 12),cO 122 (cB .quo (t 121) (cN 8)),cO 20 (cM 122)]).seq ((ops 0 [cO 123 (cM 18),cO 124 (cM 19),cO 125 (cB .lss (t 123) (t 124))]).seq (C2.cond (t 125) ((ops 0 [cO 126 (cM 18),cO 127 (cM 20),cO 128 (cB .geq (t 126) (t 127)),cO 10 (cM 128)]).seq ((ops 0 [cO 129 (cM 0),cO 130 (cM 1),cO 131 (cM 16),cO 132 (cM 3),cO 133 (cM 4),cO 134 (call (cF 111) [t 129,t 130,t 131,t 132,t 133])]).seq (ops 0 [cO 135 (cM 16),cO 136 (cB .add (t 135) (cN 1)),cO 1 (cM 136)]))) ((ops 0 [cO 137 (cM 19),cO 138 (cM 20),cO 139 (cB .geq (t 137) (t 138)),cO 10 (cM 139)]).seq ((ops 0 [cO 140 (cM 0),cO 141 (cM 16),cO 142 (cB .add (t 141) (cN 1)),cO 143 (cM 2),cO 144 (cM 3),cO 145 (cM 4),cO 146 (call (cF 111) [t 140,t 142,t 143,t 144,t 145])]).seq (ops 0 [cO 147 (cM 16),cO 2 (cM 147)])))))))))))))))))).loop))))
theorem yt:Is Tryz.prog 111 zN:=Is.mk' Tryz.func111 (by kernel_rfl)
def xw:F2:=(F2.mk 8 [RV.t 2] ((ops 0 [cO 2 (mov (cN 0))]).seq ((C2.cond av ((ops 0 [cO 3 (cM 0),cO 4 (conv IntKind.u32 (t 3)),cO 5 (call (cF 139) [t 4]),cO 2 (cM 5)]).seq ret) skip).seq ((ops 0 [cO 6 (cM 0),cO 7 (call (cF 140) [t 6]),cO 2 (cM 7)]).seq ret))))
theorem wF:Is Tryz.prog 112 xw:=Is.mk' Tryz.func112 (by kernel_rfl)
def zB:F2:=(F2.mk 20 [RV.t 4] ((ops 0 [cO 4 (mov (cN 0))]).seq ((ops 0 [cO 7 (cM 0),cO 8 (call (cF 141) [t 7]),cO 5 (cM 8)]).seq ((ops 0 [cO 9 (cM 1),cO 10 (call (cF 141) [t 9]),cO 6 (cM 10)]).seq (((ops 0 [cO 11 (cM 5)]).seq (C2.cond (t 11) (((ops 0 [cO 12 (cM 6)]).seq (C2.cond (t 12) ((ops 0 [cO 4 (mov (cN 0))]).seq ret) skip)).seq ((ops 0 [cO 4 (mov (cN ((-1))))]).seq ret)) skip)).seq (((ops 0 [cO 13 (cM 6)]).seq (C2.cond (t 13) ((ops 0 [cO 4 (mov (cN 1))]).seq ret) skip)).seq (((ops 0 [cO 14 (cM 0),cO 15 (cM 1),cO 16 (cB .lss (t 14) (t 15))]).seq (C2.cond (t 16) ((ops 0 [cO 4 (mov (cN ((-1))))]).seq ret) skip)).seq (((ops 0 [cO 17 (cM 0),cO 18 (cM 1),cO 19 (cB .gtr (t 17) (t 18))]).seq (C2.cond (t 19) ((ops 0 [cO 4 (mov (cN 1))]).seq ret) skip)).seq ((ops 0 [cO 4 (mov (cN 0))]).seq ret)))))))))
theorem xR:Is Tryz.prog 113 zB:=Is.mk' Tryz.func113 (by kernel_rfl)
def zf:F2:=(F2.mk 14 [RV.t 6] ((ops 0 [cO 5 (box (t 2)),cO 6 (mov (cN 0))]).seq (((ops 0 [cO 7 (cM 0),cO 8 (lenS (t 7)),cO 9 (cM 1),cO 10 (cB .neq (t 8) (t 9))]).seq (C2.cond (t 10) ((ops 0 [cO 6 (mov (cN 15))]).seq ret) skip)).seq (((ops 0 [cO 11 (cM 0),cO 12 (mkfn 142 [t 5]),cO 13 (call (cF 72) [t 11,t 12])]).seq (C2.cond (t 13) ((ops 0 [cO 6 (mov (cN 2))]).seq ret) skip)).seq ((ops 0 [cO 6 (mov (cN 0))]).seq ret)))))
theorem yo:Is Tryz.prog 115 zf:=Is.mk' Tryz.func115 (by kernel_rfl)
def Ag:F2:=(F2.mk 60 [RV.t 4] ((ops 0 [cO 2 (box (t 0)),cO 3 (box (t 1)),cO 4 (mov (cN 0))]).seq (((ops 0 [cO 10 (fa 1 (t 3)),cO 11 (cD 10),cO 12 (lenS (t 11)),cO 13 (cB .lss (t 12) (cN 1)),cO 14 (cM 13),cG 15 14 false (fa 1 (t 3)),cG 16 14 false (cD 15),cG 17 14 false (lenS (t 16)),cG 18 14 false (cB .gtr (t 17) (cN 1024)),cO 19 (pick (t 14) aF (t 18))]).seq (C2.cond (t 19) ((ops 0 [cO 4 (mov (cN 5))]).seq ret) skip)).seq (((ops 0 [cO 20 (fa 1 (t 3)),cO 21 (cD 20),cO 22 (lenS (t 21)),cO 23 (mov (cN 0))]).seq (block 0 ((ops 0 [cO 24 (cB .lss (t 23) (t 22))]).seq ((C2.cond (t 24) skip (exit 0)).seq ((block 1 ((ops 0 [cO 25 (cM 23),cO 26 (ixaS 1 (t 21) (t 23)),cO 27 (cD 26),cO 5 (cM 25),cO 6 (cM 27)]).seq (((ops 0 [cO 28 (cM 6),cO 29 (fa 0 (t 2)),cO 30 (cD 29),cO 31 (fa 2 (t 2)),cO 32 (cD 31),cO 33 (call (cF 115) [t 28,t 30,t 32]),cO 7 (cM 33)]).seq ((ops 0 [cO 34 (cM 7),cO 35 (cB .neq (t 34) (cN 0))]).seq (C2.cond (t 35) ((ops 0 [cO 36 (cM 7),cO 4 (cM 36)]).seq ret) skip))).seq ((ops 0 [cO 37 (fa 1 (t 3)),cO 38 (cD 37),cO 39 (cM 5),cO 40 (call (cF 143) [t 38,t 39])]).seq (C2.cond (t 40) ((ops 0 [cO 4 (mov (cN 14))]).seq ret) skip))))).seq (ops 0 [cO 41 (cB .add (t 23) (cN 1)),cO 23 (cM 41)])))).loop)).seq (((ops 0 [cO 42 (fa 2 (t 3)),cO 43 (cD 42),cO 44 (lenS (t 43)),cO 45 (mov (cN 0))]).seq (block 2 ((ops 0 [cO 46 (cB .lss (t 45) (t 44))]).seq ((C2.cond (t 46) skip (exit 2)).seq ((block 3 ((ops 0 [cO 47 (cM 45),cO 48 (ixaS 1 (t 43) (t 45)),cO 49 (cD 48),cO 8 (cM 47),cO 9 (cM 49)]).seq (((ops 0 [cO 50 (fa 1 (t 3)),cO 51 (cD 50),cO 52 (cM 9),cO 53 (call (cF 144) [t 51,t 52]),cO 54 (un UnOp.not (t 53))]).seq (C2.cond (t 54) ((ops 0 [cO 4 (mov (cN 6))]).seq ret) skip)).seq ((ops 0 [cO 55 (fa 2 (t 3)),cO 56 (cD 55),cO 57 (cM 8),cO 58 (call (cF 143) [t 56,t 57])]).seq (C2.cond (t 58) ((ops 0 [cO 4 (mov (cN 14))]).seq ret) skip))))).seq (ops 0 [cO 59 (cB .add (t 45) (cN 1)),cO 45 (cM 59)])))).loop)).seq ((ops 0 [cO 4 (mov (cN 0))]).seq ret))))))
theorem yg:Is Tryz.prog 116 Ag:=Is.mk' Tryz.func116 (by kernel_rfl)
def zK:F2:=(F2.mk 19 [RV.t 4] ((ops 0 [cO 4 (mov (cN 0))]).seq (((ops 0 [cO 6 (cM 0),cO 7 (lenS (t 6)),cO 8 (mov (cN 0))]).seq (block 0 ((ops 0 [cO 9 (cB .lss (t 8) (t 7))]).seq ((C2.cond (t 9) skip (exit 0)).seq ((block 1 ((ops 0 [cO 10 (cM 8),cO 5 (cM 10)]).seq ((ops 0 [cO 11 (cM 1),cO 12 (cM 0),cO 13 (cM 5),cO 14 (ixaS 1 (t 12) (t 13)),cO 15 (cD 14),cO 16 (call (t 11) [t 15])]).seq (C2.cond (t 16) ((ops 0 [cO 17 (cM 5),cO 4 (cM 17)]).seq ret) skip)))).seq (ops 0 [cO 18 (cB .add (t 8) (cN 1)),cO 8 (cM 18)])))).loop)).seq ((ops 0 [cO 4 (mov (cN ((-1))))]).seq ret))))
theorem x4:Is Tryz.prog 117 zK:=Is.mk' Tryz.func117 (by kernel_rfl)
def Au:F2:=(F2.mk 9 [RV.t 2] ((ops 0 [cO 2 (mov (cN 0))]).seq (((ops 0 [cO 3 (cM 0),cO 4 (cB .lss (t 3) (cN 1)),cO 5 (cM 4),cG 6 5 false (cM 0),cG 7 5 false (cB .gtr (t 6) (cN 5)),cO 8 (pick (t 5) aF (t 7))]).seq (C2.cond (t 8) ((ops 0 [cO 2 (mov (cN 2))]).seq ret) skip)).seq ((ops 0 [cO 2 (mov (cN 0))]).seq ret))))
theorem AC:Is Tryz.prog 118 Au:=Is.mk' Tryz.func118 (by kernel_rfl)
def A0:F2:=(F2.mk 33 [RV.t 4] ((ops 0 [cO 4 (mov (c AV.esl))]).seq (((ops 0 [cO 7 (cM 1),cO 8 (lenS (t 7)),cO 9 (cM 0),cO 10 (cB .eql (t 8) (t 9))]).seq (C2.cond (t 10) ((ops 0 [cO 11 (cM 1),cO 12 (call (cF 42) [t 11]),cO 13 (bldS 1 1 [AV.esl] [(0,1,t 12)]),cO 4 (cM 13)]).seq ret) skip)).seq ((ops 0 [cO 5 (mov (c AV.esl))]).seq (((ops 0 [cO 14 (cM 0),cO 15 (mov (cN 0))]).seq (block 0 ((ops 0 [cO 16 (cB .lss (t 15) (t 14))]).seq ((C2.cond (t 16) skip (exit 0)).seq ((block 1 ((ops 0 [cO 17 (cM 15),cO 6 (cM 17)]).seq ((ops 0 [cO 18 (cM 1),cO 19 (cM 6),cO 20 (call (cF 145) [t 18,t 19]),cO 21 (un UnOp.not (t 20))]).seq (C2.cond (t 21) (ops 0 [cO 22 (cM 5),cO 23 (cM 0),cO 24 (cM 1),cO 25 (call (cF 42) [t 24]),cO 26 (cM 6),cO 27 (bldS 1 1 [AV.int IntKind.i64 (0)] [(0,1,t 26)]),cO 28 (app 1 8 (t 25) (t 27)),cO 29 (call (cF 119) [t 23,t 28]),cO 30 (app 1 24 (t 22) (t 29)),cO 5 (cM 30)]) skip)))).seq (ops 0 [cO 31 (cB .add (t 15) (cN 1)),cO 15 (cM 31)])))).loop)).seq ((ops 0 [cO 32 (cM 5),cO 4 (cM 32)]).seq ret))))))
theorem Bc:Is Tryz.prog 119 A0:=Is.mk' Tryz.func119 (by kernel_rfl)
def AH:F2:=(F2.mk 8 [RV.t 4] ((ops 0 [cO 4 (mov av)]).seq ((ops 0 [cO 5 (cM 0),cO 6 (cM 1),cO 7 (call (cF 110) [t 5,t 6,c (AV.func 15 [])]),cO 4 (cM 7)]).seq ret)))
theorem AQ:Is Tryz.prog 120 AH:=Is.mk' Tryz.func120 (by kernel_rfl)
def Ay:F2:=(F2.mk 27 [RV.t 5] ((ops 0 [cO 3 (box (t 0)),cO 4 (box (t 1)),cO 5 (mov av)]).seq ((ops 0 [cO 6 (fa 0 (t 3)),cO 7 (cD 6),cO 8 (fa 0 (t 4)),cO 9 (cD 8),cO 10 (call (cF 15) [t 7,t 9]),cO 11 (cM 10),cG 12 11 true (cD 2),cG 13 11 true (fa 1 (t 3)),cG 14 11 true (cD 13),cG 15 11 true (fa 1 (t 4)),cG 16 11 true (cD 15),cG 17 11 true (call (t 12) [t 14,t 16]),cO 18 (pick (t 11) (t 17) av),cO 19 (cM 18),cG 20 19 true (cD 2),cG 21 19 true (fa 2 (t 3)),cG 22 19 true (cD 21),cG 23 19 true (fa 2 (t 4)),cG 24 19 true (cD 23),cG 25 19 true (call (t 20) [t 22,t 24]),cO 26 (pick (t 19) (t 25) av),cO 5 (cM 26)]).seq ret)))
theorem Bw:Is Tryz.prog 121 Ay:=Is.mk' Tryz.func121 (by kernel_rfl)
def Bd:F2:=(F2.mk 30 [RV.t 6] ((ops 0 [cO 6 (mov (cN 0))]).seq (((ops 0 [cO 8 (cM 0),cO 9 (lenS (t 8)),cO 10 (cM 1),cO 11 (cB .neq (t 9) (t 10))]).seq (C2.cond (t 11) ((ops 0 [cO 6 (mov (cN 15))]).seq ret) skip)).seq (((ops 0 [cO 7 (mov (cN 0))]).seq (block 0 (((ops 0 [cO 12 (cM 7),cO 13 (cM 1),cO 14 (cB .lss (t 12) (t 13))]).seq (C2.cond (t 14) skip (exit 0))).seq ((block 1 ((ops 0 [cO 17 (cM 0),cO 18 (cM 7),cO 19 (ixaS 1 (t 17) (t 18)),cO 20 (cD 19),cO 21 (cB .lss (t 20) (cN 0)),cO 22 (cM 21),cG 23 22 false (cM 0),cG 24 22 false (cM 7),cG 25 22 false (ixaS 1 (t 23) (t 24)),cG 26 22 false (cD 25),cG 27 22 false (cM 2),cG 28 22 false (cB .geq (t 26) (t 27)),cO 29 (pick (t 22) aF (t 28))]).seq (C2.cond (t 29) ((ops 0 [cO 6 (mov (cN 2))]).seq ret) skip))).seq (ops 0 [cO 15 (cM 7),cO 16 (cB .add (t 15) (cN 1)),cO 7 (cM 16)]))).loop)).seq ((ops 0 [cO 6 (mov (cN 0))]).seq ret)))))
theorem Bj:Is Tryz.prog 125 Bd:=Is.mk' Tryz.func125 (by kernel_rfl)
def Bo:F2:=(F2.mk 39 [RV.t 4,RV.t 5] ((ops 0 [cO 4 (mov (c AV.esl)),cO 5 (mov (cN 0))]).seq (((ops 0 [cO 10 (cM 0),cO 11 (call (cF 86) [t 10]),cO 6 (cM 11)]).seq ((ops 0 [cO 12 (cM 6),cO 13 (cB .neq (t 12) (cN 0))]).seq (C2.cond (t 13) ((ops 0 [cO 14 (cM 6),cO 4 (mov (c AV.esl)),cO 5 (cM 14)]).seq ret) skip))).seq (((ops 0 [cO 15 (cM 1),cO 16 (lenS (t 15)),cO 17 (cM 0),cO 18 (lenS (t 17)),cO 19 (cB .neq (t 16) (t 18))]).seq (C2.cond (t 19) ((ops 0 [cO 4 (mov (c AV.esl)),cO 5 (mov (cN 15))]).seq ret) skip)).seq ((ops 0 [cO 20 (cM 1),cO 21 (lenS (t 20)),cO 22 (mks 1 8 [AV.int IntKind.i64 (0)] (t 21) (t 21)),cO 7 (cM 22)]).seq (((ops 0 [cO 23 (cM 0),cO 24 (lenS (t 23)),cO 25 (mov (cN 0))]).seq (block 0 ((ops 0 [cO 26 (cB .lss (t 25) (t 24))]).seq ((C2.cond (t 26) skip (exit 0)).seq ((block 1 ((ops 0 [cO 27 (cM 25),cO 28 (ixaS 1 (t 23) (t 25)),cO 29 (cD 28),cO 8 (cM 27),cO 9 (cM 29)]).seq (ops 0 [cO 30 (cM 7),cO 31 (cM 9),cO 32 (cM 1),cO 33 (cM 8),cO 34 (ixaS 1 (t 32) (t 33)),cO 35 (cD 34),cO 36 (ixaS 1 (t 30) (t 31)),Op2.mk none none (Ins.st 1 (t 36) (t 35))]))).seq (ops 0 [cO 37 (cB .add (t 25) (cN 1)),cO 25 (cM 37)])))).loop)).seq ((ops 0 [cO 38 (cM 7),cO 4 (cM 38),cO 5 (mov (cN 0))]).seq ret)))))))
theorem Bg:Is Tryz.prog 126 Bo:=Is.mk' Tryz.func126 (by kernel_rfl)
def zI:F2:=(F2.mk 19 [RV.t 4] ((ops 0 [cO 4 (mov (cN 0))]).seq (((ops 0 [cO 6 (cM 0),cO 7 (lenS (t 6)),cO 8 (mov (cN 0))]).seq (block 0 ((ops 0 [cO 9 (cB .lss (t 8) (t 7))]).seq ((C2.cond (t 9) skip (exit 0)).seq ((block 1 ((ops 0 [cO 10 (cM 8),cO 5 (cM 10)]).seq ((ops 0 [cO 11 (cM 1),cO 12 (cM 0),cO 13 (cM 5),cO 14 (ixaS 1 (t 12) (t 13)),cO 15 (cD 14),cO 16 (call (t 11) [t 15])]).seq (C2.cond (t 16) ((ops 0 [cO 17 (cM 5),cO 4 (cM 17)]).seq ret) skip)))).seq (ops 0 [cO 18 (cB .add (t 8) (cN 1)),cO 8 (cM 18)])))).loop)).seq ((ops 0 [cO 4 (mov (cN ((-1))))]).seq ret))))
theorem yw:Is Tryz.prog 127 zI:=Is.mk' Tryz.func127 (by kernel_rfl)
def wW:F2:=(F2.mk 148 [] ((ops 0 [cO 10 (mov aF)]).seq ((ops 0 [cO 11 (mov aF)]).seq (block 0 (block 1 ((ops 0 [cO 21 (cM 2),cO 22 (cM 1),cO 23 (cB .sub (t 21) (t 22)),cO 12 (cM 23)]).seq (((ops 0 [cO 24 (cM 12),cO 25 (cB .leq (t 24) (cN 12))]).seq (C2.cond (t 25) ((ops 0 [cO 26 (cM 0),cO 27 (cM 1),cO 28 (cM 2),cO 29 (cM 4),cO 30 (call (cF 149) [t 26,t 27,t 28,t 29])]).seq ret) skip)).seq (((ops 0 [cO 31 (cM 3),cO 32 (cB .eql (t 31) (cN 0))]).seq (C2.cond (t 32) ((ops 0 [cO 33 (cM 0),cO 34 (cM 1),cO 35 (cM 2),cO 36 (cM 4),cO 37 (call (cF 150) [t 33,t 34,t 35,t 36])]).seq ret) skip)).seq (((ops 0 [cO 38 (cM 10),cO 39 (un UnOp.not (t 38))]).seq (C2.cond (t 39) ((ops 0 [cO 40 (cM 0),cO 41 (cM 1),cO 42 (cM 2),cO 43 (cM 4),cO 44 (call (cF 151) [t 40,t 41,t 42,t 43])]).seq (ops 0 [cO 45 (cM 3),cO 46 (cB .sub (t 45) (cN 1)),cO 3 (cM 46)])) skip)).seq ((ops 0 [cO 48 (cM 0),cO 49 (cM 1),cO 50 (cM 2),cO 51 (cM 4),cO 52 (call (cF 152) [t 48,t 49,t 50,t 51]),cO 47 (cM 52),cO 53 (ext (t 47) 0),cO 54 (ext (t 47) 1),cO 13 (cM 53),cO 14 (cM 54)]).seq (((ops 0 [cO 55 (cM 14),cO 56 (cB .eql (t 55) (cN 2))]).seq (C2.cond (t 56) ((ops 0 [cO 57 (cM 0),cO 58 (cM 1),cO 59 (cM 2),cO 60 (cM 4),cO 61 (call (cF 153) [t 57,t 58,t 59,t 60])]).seq ((ops 0 [cO 62 (cM 2),cO 63 (cB .sub (t 62) (cN 1)),cO 64 (cM 13),cO 65 (cM 1),cO 66 (cB .sub (t 64) (t 65)),cO 67 (cB .sub (t 63) (t 66)),cO 13 (cM 67)]).seq (ops 0 [cO 14 (mov (cN 1))]))) skip)).seq (((ops 0 [cO 68 (cM 10),cO 69 (cM 68),cG 70 69 true (cM 11),cO 71 (pick (t 69) (t 70) av),cO 72 (cM 71),cG 73 72 true (cM 14),cG 74 72 true (cB .eql (t 73) (cN 1)),cO 75 (pick (t 72) (t 74) av)]).seq (C2.cond (t 75) ((ops 0 [cO 76 (cM 0),cO 77 (cM 1),cO 78 (cM 2),cO 79 (cM 4),cO 80 (call (cF 154) [t 76,t 77,t 78,t 79])]).seq (C2.cond (t 80) ret skip)) skip)).seq (((mixS 1 [cO 81 (cM 1),cO 82 (cB .gtr (t 81) (cN 0)),cO 83 (cM 82),cG 84 83 true (cM 4),cG 85 83 true (cM 0),cG 86 83 true (cM 1),cG 87 83 true (cB .sub (t 86) (cN 1)),cG 88 83 true (ixaS 1 (t 85) (t 87)),cG 89 83 true (cD 88),cG 90 83 true (cM 0),cG 91 83 true (cM 13),cG 92 83 true (ixaS 1 (t 90) (t 91)),cG 93 83 true (cD 92),cG 94 83 true (call (t 84) [t 89,t 93]),cG 95 83 true (cB .lss (t 94) (cN 0)),cG 96 83 true (un UnOp.not (t 95)),cO 97 (pick (t 83) (t 96) av)] [(0,0),(1,0),(2,0),(3,0),(4,0),(5,0),(6,0),(7,0),(8,0),(9,0),(10,0),(11,0),(12,0),(13,2),(14,0),(15,0),(16,0)]).seq (C2.cond (t 97) ((ops 0 [cO 98 (cM 0),cO 99 (cM 1),cO 100 (cM 2),cO 101 (cM 13),cO 102 (cM 4),cO 103 (call (cF 155) [t 98,t 99,t 100,t 101,t 102]),cO 15 (cM 103)]).seq ((ops 0 [cO 104 (cM 15),cO 1 (cM 104)]).seq (exit 1))) skip)).seq ((ops 0 [cO 106 (cM 0),cO 107 (cM 1),cO 108 (cM 2),cO 109 (cM 13),cO 110 (cM 4),cO 111 (call (cF 156) [t 106,t 107,t 108,t 109,t 110]),cO 105 (cM 111),cO 112 (ext (t 105) 0),cO 113 (ext (t 105) 1),cO 16 (cM 112),cO 17 (cM 113)]).seq ((ops 0 [cO 114 (cM 17),cO 11 (cM 114)]).seq ((ops 0 [cO 115 (cM 16),cO 116 (cM 1),cO 117 (cB .sub (t 115) (t 116)),cO 118 (cM 2),cO 119 (cM 16),cO 120 (cB .sub (t 118) (t 119)),cO 18 (cM 117),cO 19 (cM 120)]).seq ((ops 0 [cO 121 (cM 12),cO 122 (cB .quo (t 121) (cN 8)),cO 20 (cM 122)]).seq ((ops 0 [cO 123 (cM 18),cO 124 (cM 19),cO 125 (cB .lss (t 123) (t 124))]).seq (C2.cond (t 125) ((ops 0 [cO 126 (cM 18),cO 127 (cM 20),cO 128 (cB .geq (t 126) (t 127)),cO 10 (cM 128)]).seq ((ops 0 [cO 129 (cM 0),cO 130 (cM 1),cO 131 (cM 16),cO 132 (cM 3),cO 133 (cM 4),cO 134 (call (cF 130) [t 129,t 130,t 131,t 132,t 133])]).seq (ops 0 [cO 135 (cM 16),cO 136 (cB .add (t 135) (cN 1)),cO 1 (cM 136)]))) ((ops 0 [cO 137 (cM 19),cO 138 (cM 20),cO 139 (cB .geq (t 137) (t 138)),cO 10 (cM 139)]).seq ((ops 0 [cO 140 (cM 0),cO 141 (cM 16),cO 142 (cB .add (t 141) (cN 1)),cO 143 (cM 2),cO 144 (cM 3),cO 145 (cM 4),cO 146 (call (cF 130) [t 140,t 142,t 143,t 144,t 145])]).seq (ops 0 [cO 147 (cM 16),cO 2 (cM 147)])))))))))))))))))).loop))))
theorem u4:Is Tryz.prog 130 wW:=Is.mk' Tryz.func130 (by kernel_rfl)
def y9:F2:=(F2.mk 53 [] ((ops 0 [cO 10 (cM 1),cO 11 (cB .add (t 10) (cN 1)),cO 8 (cM 11)]).seq (block 0 (((ops 0 [cO 12 (cM 8),cO 13 (cM 2),cO 14 (cB .lss (t 12) (t 13))]).seq (C2.cond (t 14) skip (exit 0))).seq ((block 1 ((ops 0 [cO 17 (cM 8),cO 9 (cM 17)]).seq (block 2 (((mixS 1 [cO 18 (cM 9),cO 19 (cM 1),cO 20 (cB .gtr (t 18) (t 19)),cO 21 (cM 20),cG 22 21 true (cM 3),cG 23 21 true (cM 0),cG 24 21 true (cM 9),cG 25 21 true (ixaS 3 (t 23) (t 24)),cG 26 21 true (ldn 3 (t 25)),cG 27 21 true (cM 0),cG 28 21 true (cM 9),cG 29 21 true (cB .sub (t 28) (cN 1)),cG 30 21 true (ixaS 3 (t 27) (t 29)),cG 31 21 true (ldn 3 (t 30)),cG 32 21 true (call (t 22) [t 26,t 31]),cG 33 21 true (cB .lss (t 32) (cN 0)),cO 34 (pick (t 21) (t 33) av)] [(0,0),(1,0),(2,0),(3,0),(4,0),(5,0),(6,0),(7,0),(8,0),(9,0),(10,0),(11,0),(12,0),(13,0),(14,2),(15,0),(16,0)]).seq (C2.cond (t 34) skip (exit 2))).seq ((block 3 (ops 1 [cO 37 (cM 0),cO 38 (cM 9),cO 39 (cM 0),cO 40 (cM 9),cO 41 (cB .sub (t 40) (cN 1)),cO 42 (cM 0),cO 43 (cM 9),cO 44 (cB .sub (t 43) (cN 1)),cO 45 (ixaS 3 (t 42) (t 44)),cO 46 (ldn 3 (t 45)),cO 47 (cM 0),cO 48 (cM 9),cO 49 (ixaS 3 (t 47) (t 48)),cO 50 (ldn 3 (t 49)),cO 51 (ixaS 3 (t 37) (t 38)),Op2.mk none none (Ins.st 3 (t 51) (t 46)),cO 52 (ixaS 3 (t 39) (t 41)),Op2.mk none none (Ins.st 3 (t 52) (t 50))])).seq (ops 0 [cO 35 (cM 9),cO 36 (cB .sub (t 35) (cN 1)),cO 9 (cM 36)]))).loop))).seq (ops 0 [cO 15 (cM 8),cO 16 (cB .add (t 15) (cN 1)),cO 8 (cM 16)]))).loop)))
theorem x9:Is Tryz.prog 131 y9:=Is.mk' Tryz.func131 (by kernel_rfl)
def zU:F2:=(F2.mk 60 [] ((ops 0 [cO 13 (cM 1),cO 8 (cM 13)]).seq ((ops 0 [cO 9 (mov (cN 0))]).seq ((ops 0 [cO 14 (cM 2),cO 15 (cM 1),cO 16 (cB .sub (t 14) (t 15)),cO 10 (cM 16)]).seq (((ops 0 [cO 17 (cM 10),cO 18 (cB .sub (t 17) (cN 1)),cO 19 (cB .quo (t 18) (cN 2)),cO 11 (cM 19)]).seq (block 0 (((ops 0 [cO 20 (cM 11),cO 21 (cB .geq (t 20) (cN 0))]).seq (C2.cond (t 21) skip (exit 0))).seq ((block 1 (ops 0 [cO 24 (cM 0),cO 25 (cM 11),cO 26 (cM 10),cO 27 (cM 8),cO 28 (cM 3),cO 29 (call (cF 157) [t 24,t 25,t 26,t 27,t 28])])).seq (ops 0 [cO 22 (cM 11),cO 23 (cB .sub (t 22) (cN 1)),cO 11 (cM 23)]))).loop)).seq ((ops 0 [cO 30 (cM 10),cO 31 (cB .sub (t 30) (cN 1)),cO 12 (cM 31)]).seq (block 2 (((ops 0 [cO 32 (cM 12),cO 33 (cB .geq (t 32) (cN 0))]).seq (C2.cond (t 33) skip (exit 2))).seq ((block 3 ((ops 1 [cO 36 (cM 0),cO 37 (cM 8),cO 38 (cM 0),cO 39 (cM 8),cO 40 (cM 12),cO 41 (cB .add (t 39) (t 40)),cO 42 (cM 0),cO 43 (cM 8),cO 44 (cM 12),cO 45 (cB .add (t 43) (t 44)),cO 46 (ixaS 3 (t 42) (t 45)),cO 47 (ldn 3 (t 46)),cO 48 (cM 0),cO 49 (cM 8),cO 50 (ixaS 3 (t 48) (t 49)),cO 51 (ldn 3 (t 50)),cO 52 (ixaS 3 (t 36) (t 37)),Op2.mk none none (Ins.st 3 (t 52) (t 47)),cO 53 (ixaS 3 (t 38) (t 41)),Op2.mk none none (Ins.st 3 (t 53) (t 51))]).seq (ops 0 [cO 54 (cM 0),cO 55 (cM 9),cO 56 (cM 12),cO 57 (cM 8),cO 58 (cM 3),cO 59 (call (cF 157) [t 54,t 55,t 56,t 57,t 58])]))).seq (ops 0 [cO 34 (cM 12),cO 35 (cB .sub (t 34) (cN 1)),cO 12 (cM 35)]))).loop)))))))
theorem xO:Is Tryz.prog 132 zU:=Is.mk' Tryz.func132 (by kernel_rfl)
def zL:F2:=(F2.mk 67 [] ((ops 0 [cO 13 (cM 2),cO 14 (cM 1),cO 15 (cB .sub (t 13) (t 14)),cO 8 (cM 15)]).seq ((ops 0 [cO 16 (cM 8),cO 17 (cB .geq (t 16) (cN 8))]).seq (C2.cond (t 17) ((ops 0 [cO 18 (cM 8),cO 19 (conv IntKind.u64 (t 18)),cO 9 (alloc (AV.int IntKind.u64 (0))),Op2.mk none none (Ins.st 1 (t 9) (t 19))]).seq ((ops 0 [cO 20 (cM 8),cO 21 (call (cF 158) [t 20]),cO 10 (cM 21)]).seq ((ops 0 [cO 22 (cM 1),cO 23 (cM 8),cO 24 (cB .quo (t 23) (cN 4)),cO 25 (cB .mul (t 24) (cN 2)),cO 26 (cB .add (t 22) (t 25)),cO 27 (cB .sub (t 26) (cN 1)),cO 11 (cM 27)]).seq (block 0 (((ops 0 [cO 28 (cM 11),cO 29 (cM 1),cO 30 (cM 8),cO 31 (cB .quo (t 30) (cN 4)),cO 32 (cB .mul (t 31) (cN 2)),cO 33 (cB .add (t 29) (t 32)),cO 34 (cB .add (t 33) (cN 1)),cO 35 (cB .leq (t 28) (t 34))]).seq (C2.cond (t 35) skip (exit 0))).seq ((block 1 ((ops 0 [cO 38 (call (cF 159) [t 9]),cO 39 (cM 10),cO 40 (cB .sub (t 39) (c (AV.int IntKind.u64 (1)))),cO 41 (cB .and (t 38) (t 40)),cO 42 (conv IntKind.i64 (t 41)),cO 12 (cM 42)]).seq (((ops 0 [cO 43 (cM 12),cO 44 (cM 8),cO 45 (cB .geq (t 43) (t 44))]).seq (C2.cond (t 45) (ops 0 [cO 46 (cM 12),cO 47 (cM 8),cO 48 (cB .sub (t 46) (t 47)),cO 12 (cM 48)]) skip)).seq (ops 1 [cO 49 (cM 0),cO 50 (cM 11),cO 51 (cM 0),cO 52 (cM 1),cO 53 (cM 12),cO 54 (cB .add (t 52) (t 53)),cO 55 (cM 0),cO 56 (cM 1),cO 57 (cM 12),cO 58 (cB .add (t 56) (t 57)),cO 59 (ixaS 3 (t 55) (t 58)),cO 60 (ldn 3 (t 59)),cO 61 (cM 0),cO 62 (cM 11),cO 63 (ixaS 3 (t 61) (t 62)),cO 64 (ldn 3 (t 63)),cO 65 (ixaS 3 (t 49) (t 50)),Op2.mk none none (Ins.st 3 (t 65) (t 60)),cO 66 (ixaS 3 (t 51) (t 54)),Op2.mk none none (Ins.st 3 (t 66) (t 64))])))).seq (ops 0 [cO 36 (cM 11),cO 37 (cB .add (t 36) (cN 1)),cO 11 (cM 37)]))).loop)))) skip))))
theorem xQ:Is Tryz.prog 133 zL:=Is.mk' Tryz.func133 (by kernel_rfl)
def y1:F2:=(F2.mk 63 [RV.t 8,RV.t 9] ((ops 0 [cO 8 (mov (cN 0)),cO 9 (mov (cN 0))]).seq ((ops 0 [cO 15 (cM 2),cO 16 (cM 1),cO 17 (cB .sub (t 15) (t 16)),cO 10 (cM 17)]).seq ((ops 0 [cO 11 (alloc (AV.int IntKind.i64 (0)))]).seq ((ops 0 [cO 18 (cM 1),cO 19 (cM 10),cO 20 (cB .quo (t 19) (cN 4)),cO 21 (cB .mul (t 20) (cN 1)),cO 22 (cB .add (t 18) (t 21)),cO 12 (cM 22)]).seq ((ops 0 [cO 23 (cM 1),cO 24 (cM 10),cO 25 (cB .quo (t 24) (cN 4)),cO 26 (cB .mul (t 25) (cN 2)),cO 27 (cB .add (t 23) (t 26)),cO 13 (cM 27)]).seq ((ops 0 [cO 28 (cM 1),cO 29 (cM 10),cO 30 (cB .quo (t 29) (cN 4)),cO 31 (cB .mul (t 30) (cN 3)),cO 32 (cB .add (t 28) (t 31)),cO 14 (cM 32)]).seq (((ops 0 [cO 33 (cM 10),cO 34 (cB .geq (t 33) (cN 8))]).seq (C2.cond (t 34) (((ops 0 [cO 35 (cM 10),cO 36 (cB .geq (t 35) (cN 50))]).seq (C2.cond (t 36) ((ops 0 [cO 37 (cM 0),cO 38 (cM 12),cO 39 (cM 3),cO 40 (call (cF 160) [t 37,t 38,t 11,t 39]),cO 12 (cM 40)]).seq ((ops 0 [cO 41 (cM 0),cO 42 (cM 13),cO 43 (cM 3),cO 44 (call (cF 160) [t 41,t 42,t 11,t 43]),cO 13 (cM 44)]).seq (ops 0 [cO 45 (cM 0),cO 46 (cM 14),cO 47 (cM 3),cO 48 (call (cF 160) [t 45,t 46,t 11,t 47]),cO 14 (cM 48)]))) skip)).seq (ops 0 [cO 49 (cM 0),cO 50 (cM 12),cO 51 (cM 13),cO 52 (cM 14),cO 53 (cM 3),cO 54 (call (cF 161) [t 49,t 50,t 51,t 52,t 11,t 53]),cO 13 (cM 54)])) skip)).seq ((ops 0 [cO 55 (cD 11)]).seq (block 0 ((ops 0 [cO 58 (cB .eql (t 55) (cN 0)),cO 57 (cM 58)]).seq (C2.cond (t 57) ((ops 0 [cO 59 (cM 13),cO 8 (cM 59),cO 9 (mov (cN 1))]).seq ret) ((ops 0 [cO 61 (cB .eql (t 55) (cN 12)),cO 60 (cM 61)]).seq (C2.cond (t 60) ((ops 0 [cO 62 (cM 13),cO 8 (cM 62),cO 9 (mov (cN 2))]).seq ret) ((ops 0 [cO 56 (cM 13),cO 8 (cM 56),cO 9 (mov (cN 0))]).seq ret)))))))))))))))
theorem yL:Is Tryz.prog 134 y1:=Is.mk' Tryz.func134 (by kernel_rfl)
def zZ:F2:=(F2.mk 34 [] ((ops 0 [cO 10 (cM 1),cO 8 (cM 10)]).seq ((ops 0 [cO 11 (cM 2),cO 12 (cB .sub (t 11) (cN 1)),cO 9 (cM 12)]).seq (block 0 (((ops 0 [cO 13 (cM 8),cO 14 (cM 9),cO 15 (cB .lss (t 13) (t 14))]).seq (C2.cond (t 15) skip (exit 0))).seq (block 1 ((ops 1 [cO 16 (cM 0),cO 17 (cM 8),cO 18 (cM 0),cO 19 (cM 9),cO 20 (cM 0),cO 21 (cM 9),cO 22 (ixaS 3 (t 20) (t 21)),cO 23 (ldn 3 (t 22)),cO 24 (cM 0),cO 25 (cM 8),cO 26 (ixaS 3 (t 24) (t 25)),cO 27 (ldn 3 (t 26)),cO 28 (ixaS 3 (t 16) (t 17)),Op2.mk none none (Ins.st 3 (t 28) (t 23)),cO 29 (ixaS 3 (t 18) (t 19)),Op2.mk none none (Ins.st 3 (t 29) (t 27))]).seq ((ops 0 [cO 30 (cM 8),cO 31 (cB .add (t 30) (cN 1)),cO 8 (cM 31)]).seq (ops 0 [cO 32 (cM 9),cO 33 (cB .sub (t 32) (cN 1)),cO 9 (cM 33)]))))).loop))))
theorem yb:Is Tryz.prog 135 zZ:=Is.mk' Tryz.func135 (by kernel_rfl)
def yZ:F2:=(F2.mk 141 [RV.t 8] ((ops 0 [cO 8 (mov av)]).seq ((ops 0 [cO 13 (cM 1),cO 14 (cB .add (t 13) (cN 1)),cO 9 (cM 14)]).seq (((ops 0 [cO 10 (mov (cN 0))]).seq (block 0 (((ops 0 [cO 15 (cM 10),cO 16 (cB .lss (t 15) (cN 5))]).seq (C2.cond (t 16) skip (exit 0))).seq ((block 1 ((block 2 (((mixS 1 [cO 19 (cM 9),cO 20 (cM 2),cO 21 (cB .lss (t 19) (t 20)),cO 22 (cM 21),cG 23 22 true (cM 3),cG 24 22 true (cM 0),cG 25 22 true (cM 9),cG 26 22 true (ixaS 3 (t 24) (t 25)),cG 27 22 true (ldn 3 (t 26)),cG 28 22 true (cM 0),cG 29 22 true (cM 9),cG 30 22 true (cB .sub (t 29) (cN 1)),cG 31 22 true (ixaS 3 (t 28) (t 30)),cG 32 22 true (ldn 3 (t 31)),cG 33 22 true (call (t 23) [t 27,t 32]),cG 34 22 true (cB .lss (t 33) (cN 0)),cG 35 22 true (un UnOp.not (t 34)),cO 36 (pick (t 22) (t 35) av)] [(0,0),(1,0),(2,0),(3,0),(4,0),(5,0),(6,0),(7,0),(8,0),(9,0),(10,0),(11,0),(12,0),(13,0),(14,2),(15,0),(16,0),(17,0)]).seq (C2.cond (t 36) skip (exit 2))).seq (block 3 (ops 0 [cO 37 (cM 9),cO 38 (cB .add (t 37) (cN 1)),cO 9 (cM 38)]))).loop).seq (((ops 0 [cO 39 (cM 9),cO 40 (cM 2),cO 41 (cB .eql (t 39) (t 40))]).seq (C2.cond (t 41) ((ops 0 [cO 8 (mov aF)]).seq ret) skip)).seq (((ops 0 [cO 42 (cM 2),cO 43 (cM 1),cO 44 (cB .sub (t 42) (t 43)),cO 45 (cB .lss (t 44) (cN 50))]).seq (C2.cond (t 45) ((ops 0 [cO 8 (mov av)]).seq ret) skip)).seq ((ops 1 [cO 46 (cM 0),cO 47 (cM 9),cO 48 (cM 0),cO 49 (cM 9),cO 50 (cB .sub (t 49) (cN 1)),cO 51 (cM 0),cO 52 (cM 9),cO 53 (cB .sub (t 52) (cN 1)),cO 54 (ixaS 3 (t 51) (t 53)),cO 55 (ldn 3 (t 54)),cO 56 (cM 0),cO 57 (cM 9),cO 58 (ixaS 3 (t 56) (t 57)),cO 59 (ldn 3 (t 58)),cO 60 (ixaS 3 (t 46) (t 47)),Op2.mk none none (Ins.st 3 (t 60) (t 55)),cO 61 (ixaS 3 (t 48) (t 50)),Op2.mk none none (Ins.st 3 (t 61) (t 59))]).seq (((ops 0 [cO 62 (cM 9),cO 63 (cM 1),cO 64 (cB .sub (t 62) (t 63)),cO 65 (cB .geq (t 64) (cN 2))]).seq (C2.cond (t 65) ((ops 0 [cO 66 (cM 9),cO 67 (cB .sub (t 66) (cN 1)),cO 11 (cM 67)]).seq (block 4 (((ops 0 [cO 68 (cM 11),cO 69 (cB .geq (t 68) (cN 1))]).seq (C2.cond (t 69) skip (exit 4))).seq ((block 5 (((mixS 1 [cO 72 (cM 3),cO 73 (cM 0),cO 74 (cM 11),cO 75 (ixaS 3 (t 73) (t 74)),cO 76 (ldn 3 (t 75)),cO 77 (cM 0),cO 78 (cM 11),cO 79 (cB .sub (t 78) (cN 1)),cO 80 (ixaS 3 (t 77) (t 79)),cO 81 (ldn 3 (t 80)),cO 82 (call (t 72) [t 76,t 81]),cO 83 (cB .lss (t 82) (cN 0)),cO 84 (un UnOp.not (t 83))] [(0,0),(1,0),(2,0),(3,0),(4,0),(5,0),(6,0),(7,0),(8,0),(9,0),(10,2),(11,0),(12,0)]).seq (C2.cond (t 84) (exit 4) skip)).seq (ops 1 [cO 85 (cM 0),cO 86 (cM 11),cO 87 (cM 0),cO 88 (cM 11),cO 89 (cB .sub (t 88) (cN 1)),cO 90 (cM 0),cO 91 (cM 11),cO 92 (cB .sub (t 91) (cN 1)),cO 93 (ixaS 3 (t 90) (t 92)),cO 94 (ldn 3 (t 93)),cO 95 (cM 0),cO 96 (cM 11),cO 97 (ixaS 3 (t 95) (t 96)),cO 98 (ldn 3 (t 97)),cO 99 (ixaS 3 (t 85) (t 86)),Op2.mk none none (Ins.st 3 (t 99) (t 94)),cO 100 (ixaS 3 (t 87) (t 89)),Op2.mk none none (Ins.st 3 (t 100) (t 98))]))).seq (ops 0 [cO 70 (cM 11),cO 71 (cB .sub (t 70) (cN 1)),cO 11 (cM 71)]))).loop)) skip)).seq ((ops 0 [cO 101 (cM 2),cO 102 (cM 9),cO 103 (cB .sub (t 101) (t 102)),cO 104 (cB .geq (t 103) (cN 2))]).seq (C2.cond (t 104) ((ops 0 [cO 105 (cM 9),cO 106 (cB .add (t 105) (cN 1)),cO 12 (cM 106)]).seq (block 6 (((ops 0 [cO 107 (cM 12),cO 108 (cM 2),cO 109 (cB .lss (t 107) (t 108))]).seq (C2.cond (t 109) skip (exit 6))).seq ((block 7 (((mixS 1 [cO 112 (cM 3),cO 113 (cM 0),cO 114 (cM 12),cO 115 (ixaS 3 (t 113) (t 114)),cO 116 (ldn 3 (t 115)),cO 117 (cM 0),cO 118 (cM 12),cO 119 (cB .sub (t 118) (cN 1)),cO 120 (ixaS 3 (t 117) (t 119)),cO 121 (ldn 3 (t 120)),cO 122 (call (t 112) [t 116,t 121]),cO 123 (cB .lss (t 122) (cN 0)),cO 124 (un UnOp.not (t 123))] [(0,0),(1,0),(2,0),(3,0),(4,0),(5,0),(6,0),(7,0),(8,0),(9,0),(10,2),(11,0),(12,0)]).seq (C2.cond (t 124) (exit 6) skip)).seq (ops 1 [cO 125 (cM 0),cO 126 (cM 12),cO 127 (cM 0),cO 128 (cM 12),cO 129 (cB .sub (t 128) (cN 1)),cO 130 (cM 0),cO 131 (cM 12),cO 132 (cB .sub (t 131) (cN 1)),cO 133 (ixaS 3 (t 130) (t 132)),cO 134 (ldn 3 (t 133)),cO 135 (cM 0),cO 136 (cM 12),cO 137 (ixaS 3 (t 135) (t 136)),cO 138 (ldn 3 (t 137)),cO 139 (ixaS 3 (t 125) (t 126)),Op2.mk none none (Ins.st 3 (t 139) (t 134)),cO 140 (ixaS 3 (t 127) (t 129)),Op2.mk none none (Ins.st 3 (t 140) (t 138))]))).seq (ops 0 [cO 110 (cM 12),cO 111 (cB .add (t 110) (cN 1)),cO 12 (cM 111)]))).loop)) skip)))))))).seq (ops 0 [cO 17 (cM 10),cO 18 (cB .add (t 17) (cN 1)),cO 10 (cM 18)]))).loop)).seq ((ops 0 [cO 8 (mov av)]).seq ret)))))
theorem ye:Is Tryz.prog 136 yZ:=Is.mk' Tryz.func136 (by kernel_rfl)
def zJ:F2:=(F2.mk 90 [RV.t 10] ((ops 0 [cO 10 (mov (cN 0))]).seq ((ops 1 [cO 13 (cM 0),cO 14 (cM 1),cO 15 (cM 0),cO 16 (cM 3),cO 17 (cM 0),cO 18 (cM 3),cO 19 (ixaS 3 (t 17) (t 18)),cO 20 (ldn 3 (t 19)),cO 21 (cM 0),cO 22 (cM 1),cO 23 (ixaS 3 (t 21) (t 22)),cO 24 (ldn 3 (t 23)),cO 25 (ixaS 3 (t 13) (t 14)),Op2.mk none none (Ins.st 3 (t 25) (t 20)),cO 26 (ixaS 3 (t 15) (t 16)),Op2.mk none none (Ins.st 3 (t 26) (t 24))]).seq ((ops 0 [cO 27 (cM 1),cO 28 (cB .add (t 27) (cN 1)),cO 29 (cM 2),cO 30 (cB .sub (t 29) (cN 1)),cO 11 (cM 28),cO 12 (cM 30)]).seq ((block 0 (block 1 ((block 2 (((mixS 1 [cO 31 (cM 11),cO 32 (cM 12),cO 33 (cB .leq (t 31) (t 32)),cO 34 (cM 33),cG 35 34 true (cM 4),cG 36 34 true (cM 0),cG 37 34 true (cM 1),cG 38 34 true (ixaS 3 (t 36) (t 37)),cG 39 34 true (ldn 3 (t 38)),cG 40 34 true (cM 0),cG 41 34 true (cM 11),cG 42 34 true (ixaS 3 (t 40) (t 41)),cG 43 34 true (ldn 3 (t 42)),cG 44 34 true (call (t 35) [t 39,t 43]),cG 45 34 true (cB .lss (t 44) (cN 0)),cG 46 34 true (un UnOp.not (t 45)),cO 47 (pick (t 34) (t 46) av)] [(0,0),(1,0),(2,0),(3,0),(4,0),(5,0),(6,0),(7,0),(8,0),(9,0),(10,0),(11,0),(12,0),(13,2),(14,0),(15,0),(16,0)]).seq (C2.cond (t 47) skip (exit 2))).seq (block 3 (ops 0 [cO 48 (cM 11),cO 49 (cB .add (t 48) (cN 1)),cO 11 (cM 49)]))).loop).seq ((block 4 (((mixS 1 [cO 50 (cM 11),cO 51 (cM 12),cO 52 (cB .leq (t 50) (t 51)),cO 53 (cM 52),cG 54 53 true (cM 4),cG 55 53 true (cM 0),cG 56 53 true (cM 1),cG 57 53 true (ixaS 3 (t 55) (t 56)),cG 58 53 true (ldn 3 (t 57)),cG 59 53 true (cM 0),cG 60 53 true (cM 12),cG 61 53 true (ixaS 3 (t 59) (t 60)),cG 62 53 true (ldn 3 (t 61)),cG 63 53 true (call (t 54) [t 58,t 62]),cG 64 53 true (cB .lss (t 63) (cN 0)),cO 65 (pick (t 53) (t 64) av)] [(0,0),(1,0),(2,0),(3,0),(4,0),(5,0),(6,0),(7,0),(8,0),(9,0),(10,0),(11,0),(12,0),(13,2),(14,0),(15,0)]).seq (C2.cond (t 65) skip (exit 4))).seq (block 5 (ops 0 [cO 66 (cM 12),cO 67 (cB .sub (t 66) (cN 1)),cO 12 (cM 67)]))).loop).seq (((ops 0 [cO 68 (cM 11),cO 69 (cM 12),cO 70 (cB .gtr (t 68) (t 69))]).seq (C2.cond (t 70) (exit 0) skip)).seq ((ops 1 [cO 71 (cM 0),cO 72 (cM 11),cO 73 (cM 0),cO 74 (cM 12),cO 75 (cM 0),cO 76 (cM 12),cO 77 (ixaS 3 (t 75) (t 76)),cO 78 (ldn 3 (t 77)),cO 79 (cM 0),cO 80 (cM 11),cO 81 (ixaS 3 (t 79) (t 80)),cO 82 (ldn 3 (t 81)),cO 83 (ixaS 3 (t 71) (t 72)),Op2.mk none none (Ins.st 3 (t 83) (t 78)),cO 84 (ixaS 3 (t 73) (t 74)),Op2.mk none none (Ins.st 3 (t 84) (t 82))]).seq ((ops 0 [cO 85 (cM 11),cO 86 (cB .add (t 85) (cN 1)),cO 11 (cM 86)]).seq (ops 0 [cO 87 (cM 12),cO 88 (cB .sub (t 87) (cN 1)),cO 12 (cM 88)]))))))).loop).seq ((ops 0 [cO 89 (cM 11),cO 10 (cM 89)]).seq ret))))))
theorem yA:Is Tryz.prog 137 zJ:=Is.mk' Tryz.func137 (by kernel_rfl)
def zH:F2:=(F2.mk 178 [RV.t 10,RV.t 11] ((ops 0 [cO 10 (mov (cN 0)),cO 11 (mov av)]).seq ((ops 1 [cO 14 (cM 0),cO 15 (cM 1),cO 16 (cM 0),cO 17 (cM 3),cO 18 (cM 0),cO 19 (cM 3),cO 20 (ixaS 3 (t 18) (t 19)),cO 21 (ldn 3 (t 20)),cO 22 (cM 0),cO 23 (cM 1),cO 24 (ixaS 3 (t 22) (t 23)),cO 25 (ldn 3 (t 24)),cO 26 (ixaS 3 (t 14) (t 15)),Op2.mk none none (Ins.st 3 (t 26) (t 21)),cO 27 (ixaS 3 (t 16) (t 17)),Op2.mk none none (Ins.st 3 (t 27) (t 25))]).seq ((ops 0 [cO 28 (cM 1),cO 29 (cB .add (t 28) (cN 1)),cO 30 (cM 2),cO 31 (cB .sub (t 30) (cN 1)),cO 12 (cM 29),cO 13 (cM 31)]).seq ((block 0 (((mixS 1 [cO 32 (cM 12),cO 33 (cM 13),cO 34 (cB .leq (t 32) (t 33)),cO 35 (cM 34),cG 36 35 true (cM 4),cG 37 35 true (cM 0),cG 38 35 true (cM 12),cG 39 35 true (ixaS 3 (t 37) (t 38)),cG 40 35 true (ldn 3 (t 39)),cG 41 35 true (cM 0),cG 42 35 true (cM 1),cG 43 35 true (ixaS 3 (t 41) (t 42)),cG 44 35 true (ldn 3 (t 43)),cG 45 35 true (call (t 36) [t 40,t 44]),cG 46 35 true (cB .lss (t 45) (cN 0)),cO 47 (pick (t 35) (t 46) av)] [(0,0),(1,0),(2,0),(3,0),(4,0),(5,0),(6,0),(7,0),(8,0),(9,0),(10,0),(11,0),(12,0),(13,2),(14,0),(15,0)]).seq (C2.cond (t 47) skip (exit 0))).seq (block 1 (ops 0 [cO 48 (cM 12),cO 49 (cB .add (t 48) (cN 1)),cO 12 (cM 49)]))).loop).seq ((block 2 (((mixS 1 [cO 50 (cM 12),cO 51 (cM 13),cO 52 (cB .leq (t 50) (t 51)),cO 53 (cM 52),cG 54 53 true (cM 4),cG 55 53 true (cM 0),cG 56 53 true (cM 13),cG 57 53 true (ixaS 3 (t 55) (t 56)),cG 58 53 true (ldn 3 (t 57)),cG 59 53 true (cM 0),cG 60 53 true (cM 1),cG 61 53 true (ixaS 3 (t 59) (t 60)),cG 62 53 true (ldn 3 (t 61)),cG 63 53 true (call (t 54) [t 58,t 62]),cG 64 53 true (cB .lss (t 63) (cN 0)),cG 65 53 true (un UnOp.not (t 64)),cO 66 (pick (t 53) (t 65) av)] [(0,0),(1,0),(2,0),(3,0),(4,0),(5,0),(6,0),(7,0),(8,0),(9,0),(10,0),(11,0),(12,0),(13,2),(14,0),(15,0),(16,0)]).seq (C2.cond (t 66) skip (exit 2))).seq (block 3 (ops 0 [cO 67 (cM 13),cO 68 (cB .sub (t 67) (cN 1)),cO 13 (cM 68)]))).loop).seq (((ops 0 [cO 69 (cM 12),cO 70 (cM 13),cO 71 (cB .gtr (t 69) (t 70))]).seq (C2.cond (t 71) ((ops 1 [cO 72 (cM 0),cO 73 (cM 13),cO 74 (cM 0),cO 75 (cM 1),cO 76 (cM 0),cO 77 (cM 1),cO 78 (ixaS 3 (t 76) (t 77)),cO 79 (ldn 3 (t 78)),cO 80 (cM 0),cO 81 (cM 13),cO 82 (ixaS 3 (t 80) (t 81)),cO 83 (ldn 3 (t 82)),cO 84 (ixaS 3 (t 72) (t 73)),Op2.mk none none (Ins.st 3 (t 84) (t 79)),cO 85 (ixaS 3 (t 74) (t 75)),Op2.mk none none (Ins.st 3 (t 85) (t 83))]).seq ((ops 0 [cO 86 (cM 13),cO 10 (cM 86),cO 11 (mov aF)]).seq ret)) skip)).seq ((ops 1 [cO 87 (cM 0),cO 88 (cM 12),cO 89 (cM 0),cO 90 (cM 13),cO 91 (cM 0),cO 92 (cM 13),cO 93 (ixaS 3 (t 91) (t 92)),cO 94 (ldn 3 (t 93)),cO 95 (cM 0),cO 96 (cM 12),cO 97 (ixaS 3 (t 95) (t 96)),cO 98 (ldn 3 (t 97)),cO 99 (ixaS 3 (t 87) (t 88)),Op2.mk none none (Ins.st 3 (t 99) (t 94)),cO 100 (ixaS 3 (t 89) (t 90)),Op2.mk none none (Ins.st 3 (t 100) (t 98))]).seq ((ops 0 [cO 101 (cM 12),cO 102 (cB .add (t 101) (cN 1)),cO 12 (cM 102)]).seq ((ops 0 [cO 103 (cM 13),cO 104 (cB .sub (t 103) (cN 1)),cO 13 (cM 104)]).seq ((block 4 (block 5 ((block 6 (((mixS 1 [cO 105 (cM 12),cO 106 (cM 13),cO 107 (cB .leq (t 105) (t 106)),cO 108 (cM 107),cG 109 108 true (cM 4),cG 110 108 true (cM 0),cG 111 108 true (cM 12),cG 112 108 true (ixaS 3 (t 110) (t 111)),cG 113 108 true (ldn 3 (t 112)),cG 114 108 true (cM 0),cG 115 108 true (cM 1),cG 116 108 true (ixaS 3 (t 114) (t 115)),cG 117 108 true (ldn 3 (t 116)),cG 118 108 true (call (t 109) [t 113,t 117]),cG 119 108 true (cB .lss (t 118) (cN 0)),cO 120 (pick (t 108) (t 119) av)] [(0,0),(1,0),(2,0),(3,0),(4,0),(5,0),(6,0),(7,0),(8,0),(9,0),(10,0),(11,0),(12,0),(13,2),(14,0),(15,0)]).seq (C2.cond (t 120) skip (exit 6))).seq (block 7 (ops 0 [cO 121 (cM 12),cO 122 (cB .add (t 121) (cN 1)),cO 12 (cM 122)]))).loop).seq ((block 8 (((mixS 1 [cO 123 (cM 12),cO 124 (cM 13),cO 125 (cB .leq (t 123) (t 124)),cO 126 (cM 125),cG 127 126 true (cM 4),cG 128 126 true (cM 0),cG 129 126 true (cM 13),cG 130 126 true (ixaS 3 (t 128) (t 129)),cG 131 126 true (ldn 3 (t 130)),cG 132 126 true (cM 0),cG 133 126 true (cM 1),cG 134 126 true (ixaS 3 (t 132) (t 133)),cG 135 126 true (ldn 3 (t 134)),cG 136 126 true (call (t 127) [t 131,t 135]),cG 137 126 true (cB .lss (t 136) (cN 0)),cG 138 126 true (un UnOp.not (t 137)),cO 139 (pick (t 126) (t 138) av)] [(0,0),(1,0),(2,0),(3,0),(4,0),(5,0),(6,0),(7,0),(8,0),(9,0),(10,0),(11,0),(12,0),(13,2),(14,0),(15,0),(16,0)]).seq (C2.cond (t 139) skip (exit 8))).seq (block 9 (ops 0 [cO 140 (cM 13),cO 141 (cB .sub (t 140) (cN 1)),cO 13 (cM 141)]))).loop).seq (((ops 0 [cO 142 (cM 12),cO 143 (cM 13),cO 144 (cB .gtr (t 142) (t 143))]).seq (C2.cond (t 144) (exit 4) skip)).seq ((ops 1 [cO 145 (cM 0),cO 146 (cM 12),cO 147 (cM 0),cO 148 (cM 13),cO 149 (cM 0),cO 150 (cM 13),cO 151 (ixaS 3 (t 149) (t 150)),cO 152 (ldn 3 (t 151)),cO 153 (cM 0),cO 154 (cM 12),cO 155 (ixaS 3 (t 153) (t 154)),cO 156 (ldn 3 (t 155)),cO 157 (ixaS 3 (t 145) (t 146)),Op2.mk none none (Ins.st 3 (t 157) (t 152)),cO 158 (ixaS 3 (t 147) (t 148)),Op2.mk none none (Ins.st 3 (t 158) (t 156))]).seq ((ops 0 [cO 159 (cM 12),cO 160 (cB .add (t 159) (cN 1)),cO 12 (cM 160)]).seq (ops 0 [cO 161 (cM 13),cO 162 (cB .sub (t 161) (cN 1)),cO 13 (cM 162)]))))))).loop).seq ((ops 1 [cO 163 (cM 0),cO 164 (cM 13),cO 165 (cM 0),cO 166 (cM 1),cO 167 (cM 0),cO 168 (cM 1),cO 169 (ixaS 3 (t 167) (t 168)),cO 170 (ldn 3 (t 169)),cO 171 (cM 0),cO 172 (cM 13),cO 173 (ixaS 3 (t 171) (t 172)),cO 174 (ldn 3 (t 173)),cO 175 (ixaS 3 (t 163) (t 164)),Op2.mk none none (Ins.st 3 (t 175) (t 170)),cO 176 (ixaS 3 (t 165) (t 166)),Op2.mk none none (Ins.st 3 (t 176) (t 174))]).seq ((ops 0 [cO 177 (cM 13),cO 10 (cM 177),cO 11 (mov av)]).seq ret)))))))))))))
theorem yG:Is Tryz.prog 138 zH:=Is.mk' Tryz.func138 (by kernel_rfl)
def A2:F2:=(F2.mk 19 [RV.t 2] ((ops 0 [cO 2 (mov (cN 0))]).seq (((ops 0 [cO 3 (cM 0),cO 4 (cB .geq (t 3) (c (AV.int IntKind.u32 (65536))))]).seq (C2.cond (t 4) ((ops 0 [cO 5 (cM 0),cO 6 (cB .shr (t 5) (c (AV.int IntKind.u64 (16)))),cO 0 (cM 6)]).seq (ops 0 [cO 2 (mov (cN 16))])) skip)).seq (((ops 0 [cO 7 (cM 0),cO 8 (cB .geq (t 7) (c (AV.int IntKind.u32 (256))))]).seq (C2.cond (t 8) ((ops 0 [cO 9 (cM 0),cO 10 (cB .shr (t 9) (c (AV.int IntKind.u64 (8)))),cO 0 (cM 10)]).seq (ops 0 [cO 11 (cM 2),cO 12 (cB .add (t 11) (cN 8)),cO 2 (cM 12)])) skip)).seq ((ops 0 [cO 13 (cM 2),cO 14 (cM 0),cO 15 (conv IntKind.u8 (t 14)),cO 16 (ixStr (c (AV.str (ByteArray.mk (Array.mk [0,1,2,2,3,3,3,3,4,4,4,4,4,4,4,4,5,5,5,5,5,5,5,5,5,5,5,5,5,5,5,5,6,6,6,6,6,6,6,6,6,6,6,6,6,6,6,6,6,6,6,6,6,6,6,6,6,6,6,6,6,6,6,6,7,7,7,7,7,7,7,7,7,7,7,7,7,7,7,7,7,7,7,7,7,7,7,7,7,7,7,7,7,7,7,7,7,7,7,7,7,7,7,7,7,7,7,7,7,7,7,7,7,7,7,7,7,7,7,7,7,7,7,7,7,7,7,7,8,8,8,8,8,8,8,8,8,8,8,8,8,8,8,8,8,8,8,8,8,8,8,8,8,8,8,8,8,8,8,8,8,8,8,8,8,8,8,8,8,8,8,8,8,8,8,8,8,8,8,8,8,8,8,8,8,8,8,8,8,8,8,8,8,8,8,8,8,8,8,8,8,8,8,8,8,8,8,8,8,8,8,8,8,8,8,8,8,8,8,8,8,8,8,8,8,8,8,8,8,8,8,8,8,8,8,8,8,8,8,8,8,8,8,8,8,8,8,8,8,8,8,8,8,8,8,8])))) (t 15)),cO 17 (conv IntKind.i64 (t 16)),cO 18 (cB .add (t 13) (t 17)),cO 2 (cM 18)]).seq ret)))))
theorem Bk:Is Tryz.prog 139 A2:=Is.mk' Tryz.func139 (by kernel_rfl)
def xf:F2:=(F2.mk 25 [RV.t 2] ((ops 0 [cO 2 (mov (cN 0))]).seq (((ops 0 [cO 3 (cM 0),cO 4 (cB .geq (t 3) (c (AV.int IntKind.u64 (4294967296))))]).seq (C2.cond (t 4) ((ops 0 [cO 5 (cM 0),cO 6 (cB .shr (t 5) (c (AV.int IntKind.u64 (32)))),cO 0 (cM 6)]).seq (ops 0 [cO 2 (mov (cN 32))])) skip)).seq (((ops 0 [cO 7 (cM 0),cO 8 (cB .geq (t 7) (c (AV.int IntKind.u64 (65536))))]).seq (C2.cond (t 8) ((ops 0 [cO 9 (cM 0),cO 10 (cB .shr (t 9) (c (AV.int IntKind.u64 (16)))),cO 0 (cM 10)]).seq (ops 0 [cO 11 (cM 2),cO 12 (cB .add (t 11) (cN 16)),cO 2 (cM 12)])) skip)).seq (((ops 0 [cO 13 (cM 0),cO 14 (cB .geq (t 13) (c (AV.int IntKind.u64 (256))))]).seq (C2.cond (t 14) ((ops 0 [cO 15 (cM 0),cO 16 (cB .shr (t 15) (c (AV.int IntKind.u64 (8)))),cO 0 (cM 16)]).seq (ops 0 [cO 17 (cM 2),cO 18 (cB .add (t 17) (cN 8)),cO 2 (cM 18)])) skip)).seq ((ops 0 [cO 19 (cM 2),cO 20 (cM 0),cO 21 (conv IntKind.u8 (t 20)),cO 22 (ixStr (c (AV.str (ByteArray.mk (Array.mk [0,1,2,2,3,3,3,3,4,4,4,4,4,4,4,4,5,5,5,5,5,5,5,5,5,5,5,5,5,5,5,5,6,6,6,6,6,6,6,6,6,6,6,6,6,6,6,6,6,6,6,6,6,6,6,6,6,6,6,6,6,6,6,6,7,7,7,7,7,7,7,7,7,7,7,7,7,7,7,7,7,7,7,7,7,7,7,7,7,7,7,7,7,7,7,7,7,7,7,7,7,7,7,7,7,7,7,7,7,7,7,7,7,7,7,7,7,7,7,7,7,7,7,7,7,7,7,7,8,8,8,8,8,8,8,8,8,8,8,8,8,8,8,8,8,8,8,8,8,8,8,8,8,8,8,8,8,8,8,8,8,8,8,8,8,8,8,8,8,8,8,8,8,8,8,8,8,8,8,8,8,8,8,8,8,8,8,8,8,8,8,8,8,8,8,8,8,8,8,8,8,8,8,8,8,8,8,8,8,8,8,8,8,8,8,8,8,8,8,8,8,8,8,8,8,8,8,8,8,8,8,8,8,8,8,8,8,8,8,8,8,8,8,8,8,8,8,8,8,8,8,8,8,8,8,8])))) (t 21)),cO 23 (conv IntKind.i64 (t 22)),cO 24 (cB .add (t 19) (t 23)),cO 2 (cM 24)]).seq ret))))))
theorem wa:Is Tryz.prog 140 xf:=Is.mk' Tryz.func140 (by kernel_rfl)
def zA:F2:=(F2.mk 6 [RV.t 2] ((ops 0 [cO 2 (mov av)]).seq ((ops 0 [cO 3 (cM 0),cO 4 (cM 0),cO 5 (cB .neq (t 3) (t 4)),cO 2 (cM 5)]).seq ret)))
theorem xX:Is Tryz.prog 141 zA:=Is.mk' Tryz.func141 (by kernel_rfl)
def yS:F2:=(F2.mk 11 [RV.t 3] ((ops 0 [cO 3 (mov av)]).seq ((ops 0 [cO 4 (cM 0),cO 5 (cB .lss (t 4) (cN 0)),cO 6 (cM 5),cG 7 6 false (cM 0),cG 8 6 false (cD 1),cG 9 6 false (cB .geq (t 7) (t 8)),cO 10 (pick (t 6) aF (t 9)),cO 3 (cM 10)]).seq ret)))
theorem xN:Is Tryz.prog 142 yS:=Is.mk' Tryz.func142 (by kernel_rfl)
def zT:F2:=(F2.mk 20 [RV.t 4] ((ops 0 [cO 4 (mov av)]).seq ((mixS 1 [cO 5 (cM 1),cO 6 (cB .gtr (t 5) (cN 0)),cO 7 (cM 6),cG 8 7 true (cM 0),cG 9 7 true (cM 1),cG 10 7 true (cB .sub (t 9) (cN 1)),cG 11 7 true (ixaS 1 (t 8) (t 10)),cG 12 7 true (cD 11),cG 13 7 true (cM 0),cG 14 7 true (cM 1),cG 15 7 true (ixaS 1 (t 13) (t 14)),cG 16 7 true (cD 15),cG 17 7 true (call (cF 64) [t 12,t 16]),cG 18 7 true (cB .geq (t 17) (cN 0)),cO 19 (pick (t 7) (t 18) av),cO 4 (cM 19)] [(0,0),(1,0),(2,0),(3,0),(4,0),(5,0),(6,0),(7,0),(8,0),(9,0),(10,0),(11,0),(12,2),(13,0),(14,0),(15,0)]).seq ret)))
theorem yD:Is Tryz.prog 143 zT:=Is.mk' Tryz.func143 (by kernel_rfl)
def Ah:F2:=(F2.mk 8 [RV.t 4] ((ops 0 [cO 3 (box (t 1)),cO 4 (mov av)]).seq ((ops 0 [cO 5 (cM 0),cO 6 (mkfn 162 [t 3]),cO 7 (call (cF 96) [t 5,t 6]),cO 4 (cM 7)]).seq ret)))
theorem yI:Is Tryz.prog 144 Ah:=Is.mk' Tryz.func144 (by kernel_rfl)
def AX:F2:=(F2.mk 9 [RV.t 4] ((ops 0 [cO 4 (mov av)]).seq ((ops 0 [cO 5 (cM 0),cO 6 (cM 1),cO 7 (call (cF 163) [t 5,t 6]),cO 8 (cB .geq (t 7) (cN 0)),cO 4 (cM 8)]).seq ret)))
theorem Bv:Is Tryz.prog 145 AX:=Is.mk' Tryz.func145 (by kernel_rfl)
def wN:F2:=(F2.mk 53 [] ((ops 0 [cO 10 (cM 1),cO 11 (cB .add (t 10) (cN 1)),cO 8 (cM 11)]).seq (block 0 (((ops 0 [cO 12 (cM 8),cO 13 (cM 2),cO 14 (cB .lss (t 12) (t 13))]).seq (C2.cond (t 14) skip (exit 0))).seq ((block 1 ((ops 0 [cO 17 (cM 8),cO 9 (cM 17)]).seq (block 2 (((mixS 1 [cO 18 (cM 9),cO 19 (cM 1),cO 20 (cB .gtr (t 18) (t 19)),cO 21 (cM 20),cG 22 21 true (cM 3),cG 23 21 true (cM 0),cG 24 21 true (cM 9),cG 25 21 true (ixaS 1 (t 23) (t 24)),cG 26 21 true (cD 25),cG 27 21 true (cM 0),cG 28 21 true (cM 9),cG 29 21 true (cB .sub (t 28) (cN 1)),cG 30 21 true (ixaS 1 (t 27) (t 29)),cG 31 21 true (cD 30),cG 32 21 true (call (t 22) [t 26,t 31]),cG 33 21 true (cB .lss (t 32) (cN 0)),cO 34 (pick (t 21) (t 33) av)] [(0,0),(1,0),(2,0),(3,0),(4,0),(5,0),(6,0),(7,0),(8,0),(9,0),(10,0),(11,0),(12,0),(13,0),(14,2),(15,0),(16,0)]).seq (C2.cond (t 34) skip (exit 2))).seq ((block 3 (ops 1 [cO 37 (cM 0),cO 38 (cM 9),cO 39 (cM 0),cO 40 (cM 9),cO 41 (cB .sub (t 40) (cN 1)),cO 42 (cM 0),cO 43 (cM 9),cO 44 (cB .sub (t 43) (cN 1)),cO 45 (ixaS 1 (t 42) (t 44)),cO 46 (cD 45),cO 47 (cM 0),cO 48 (cM 9),cO 49 (ixaS 1 (t 47) (t 48)),cO 50 (cD 49),cO 51 (ixaS 1 (t 37) (t 38)),Op2.mk none none (Ins.st 1 (t 51) (t 46)),cO 52 (ixaS 1 (t 39) (t 41)),Op2.mk none none (Ins.st 1 (t 52) (t 50))])).seq (ops 0 [cO 35 (cM 9),cO 36 (cB .sub (t 35) (cN 1)),cO 9 (cM 36)]))).loop))).seq (ops 0 [cO 15 (cM 8),cO 16 (cB .add (t 15) (cN 1)),cO 8 (cM 16)]))).loop)))
theorem v4:Is Tryz.prog 149 wN:=Is.mk' Tryz.func149 (by kernel_rfl)
def zc:F2:=(F2.mk 60 [] ((ops 0 [cO 13 (cM 1),cO 8 (cM 13)]).seq ((ops 0 [cO 9 (mov (cN 0))]).seq ((ops 0 [cO 14 (cM 2),cO 15 (cM 1),cO 16 (cB .sub (t 14) (t 15)),cO 10 (cM 16)]).seq (((ops 0 [cO 17 (cM 10),cO 18 (cB .sub (t 17) (cN 1)),cO 19 (cB .quo (t 18) (cN 2)),cO 11 (cM 19)]).seq (block 0 (((ops 0 [cO 20 (cM 11),cO 21 (cB .geq (t 20) (cN 0))]).seq (C2.cond (t 21) skip (exit 0))).seq ((block 1 (ops 0 [cO 24 (cM 0),cO 25 (cM 11),cO 26 (cM 10),cO 27 (cM 8),cO 28 (cM 3),cO 29 (call (cF 165) [t 24,t 25,t 26,t 27,t 28])])).seq (ops 0 [cO 22 (cM 11),cO 23 (cB .sub (t 22) (cN 1)),cO 11 (cM 23)]))).loop)).seq ((ops 0 [cO 30 (cM 10),cO 31 (cB .sub (t 30) (cN 1)),cO 12 (cM 31)]).seq (block 2 (((ops 0 [cO 32 (cM 12),cO 33 (cB .geq (t 32) (cN 0))]).seq (C2.cond (t 33) skip (exit 2))).seq ((block 3 ((ops 1 [cO 36 (cM 0),cO 37 (cM 8),cO 38 (cM 0),cO 39 (cM 8),cO 40 (cM 12),cO 41 (cB .add (t 39) (t 40)),cO 42 (cM 0),cO 43 (cM 8),cO 44 (cM 12),cO 45 (cB .add (t 43) (t 44)),cO 46 (ixaS 1 (t 42) (t 45)),cO 47 (cD 46),cO 48 (cM 0),cO 49 (cM 8),cO 50 (ixaS 1 (t 48) (t 49)),cO 51 (cD 50),cO 52 (ixaS 1 (t 36) (t 37)),Op2.mk none none (Ins.st 1 (t 52) (t 47)),cO 53 (ixaS 1 (t 38) (t 41)),Op2.mk none none (Ins.st 1 (t 53) (t 51))]).seq (ops 0 [cO 54 (cM 0),cO 55 (cM 9),cO 56 (cM 12),cO 57 (cM 8),cO 58 (cM 3),cO 59 (call (cF 165) [t 54,t 55,t 56,t 57,t 58])]))).seq (ops 0 [cO 34 (cM 12),cO 35 (cB .sub (t 34) (cN 1)),cO 12 (cM 35)]))).loop)))))))
theorem xT:Is Tryz.prog 150 zc:=Is.mk' Tryz.func150 (by kernel_rfl)
def zr:F2:=(F2.mk 67 [] ((ops 0 [cO 13 (cM 2),cO 14 (cM 1),cO 15 (cB .sub (t 13) (t 14)),cO 8 (cM 15)]).seq ((ops 0 [cO 16 (cM 8),cO 17 (cB .geq (t 16) (cN 8))]).seq (C2.cond (t 17) ((ops 0 [cO 18 (cM 8),cO 19 (conv IntKind.u64 (t 18)),cO 9 (alloc (AV.int IntKind.u64 (0))),Op2.mk none none (Ins.st 1 (t 9) (t 19))]).seq ((ops 0 [cO 20 (cM 8),cO 21 (call (cF 158) [t 20]),cO 10 (cM 21)]).seq ((ops 0 [cO 22 (cM 1),cO 23 (cM 8),cO 24 (cB .quo (t 23) (cN 4)),cO 25 (cB .mul (t 24) (cN 2)),cO 26 (cB .add (t 22) (t 25)),cO 27 (cB .sub (t 26) (cN 1)),cO 11 (cM 27)]).seq (block 0 (((ops 0 [cO 28 (cM 11),cO 29 (cM 1),cO 30 (cM 8),cO 31 (cB .quo (t 30) (cN 4)),cO 32 (cB .mul (t 31) (cN 2)),cO 33 (cB .add (t 29) (t 32)),cO 34 (cB .add (t 33) (cN 1)),cO 35 (cB .leq (t 28) (t 34))]).seq (C2.cond (t 35) skip (exit 0))).seq ((block 1 ((ops 0 [cO 38 (call (cF 159) [t 9]),cO 39 (cM 10),cO 40 (cB .sub (t 39) (c (AV.int IntKind.u64 (1)))),cO 41 (cB .and (t 38) (t 40)),cO 42 (conv IntKind.i64 (t 41)),cO 12 (cM 42)]).seq (((ops 0 [cO 43 (cM 12),cO 44 (cM 8),cO 45 (cB .geq (t 43) (t 44))]).seq (C2.cond (t 45) (ops 0 [cO 46 (cM 12),cO 47 (cM 8),cO 48 (cB .sub (t 46) (t 47)),cO 12 (cM 48)]) skip)).seq (ops 1 [cO 49 (cM 0),cO 50 (cM 11),cO 51 (cM 0),cO 52 (cM 1),cO 53 (cM 12),cO 54 (cB .add (t 52) (t 53)),cO 55 (cM 0),cO 56 (cM 1),cO 57 (cM 12),cO 58 (cB .add (t 56) (t 57)),cO 59 (ixaS 1 (t 55) (t 58)),cO 60 (cD 59),cO 61 (cM 0),cO 62 (cM 11),cO 63 (ixaS 1 (t 61) (t 62)),cO 64 (cD 63),cO 65 (ixaS 1 (t 49) (t 50)),Op2.mk none none (Ins.st 1 (t 65) (t 60)),cO 66 (ixaS 1 (t 51) (t 54)),Op2.mk none none (Ins.st 1 (t 66) (t 64))])))).seq (ops 0 [cO 36 (cM 11),cO 37 (cB .add (t 36) (cN 1)),cO 11 (cM 37)]))).loop)))) skip))))
theorem yi:Is Tryz.prog 151 zr:=Is.mk' Tryz.func151 (by kernel_rfl)
def zo:F2:=(F2.mk 63 [RV.t 8,RV.t 9] ((ops 0 [cO 8 (mov (cN 0)),cO 9 (mov (cN 0))]).seq ((ops 0 [cO 15 (cM 2),cO 16 (cM 1),cO 17 (cB .sub (t 15) (t 16)),cO 10 (cM 17)]).seq ((ops 0 [cO 11 (alloc (AV.int IntKind.i64 (0)))]).seq ((ops 0 [cO 18 (cM 1),cO 19 (cM 10),cO 20 (cB .quo (t 19) (cN 4)),cO 21 (cB .mul (t 20) (cN 1)),cO 22 (cB .add (t 18) (t 21)),cO 12 (cM 22)]).seq ((ops 0 [cO 23 (cM 1),cO 24 (cM 10),cO 25 (cB .quo (t 24) (cN 4)),cO 26 (cB .mul (t 25) (cN 2)),cO 27 (cB .add (t 23) (t 26)),cO 13 (cM 27)]).seq ((ops 0 [cO 28 (cM 1),cO 29 (cM 10),cO 30 (cB .quo (t 29) (cN 4)),cO 31 (cB .mul (t 30) (cN 3)),cO 32 (cB .add (t 28) (t 31)),cO 14 (cM 32)]).seq (((ops 0 [cO 33 (cM 10),cO 34 (cB .geq (t 33) (cN 8))]).seq (C2.cond (t 34) (((ops 0 [cO 35 (cM 10),cO 36 (cB .geq (t 35) (cN 50))]).seq (C2.cond (t 36) ((ops 0 [cO 37 (cM 0),cO 38 (cM 12),cO 39 (cM 3),cO 40 (call (cF 166) [t 37,t 38,t 11,t 39]),cO 12 (cM 40)]).seq ((ops 0 [cO 41 (cM 0),cO 42 (cM 13),cO 43 (cM 3),cO 44 (call (cF 166) [t 41,t 42,t 11,t 43]),cO 13 (cM 44)]).seq (ops 0 [cO 45 (cM 0),cO 46 (cM 14),cO 47 (cM 3),cO 48 (call (cF 166) [t 45,t 46,t 11,t 47]),cO 14 (cM 48)]))) skip)).seq (ops 0 [cO 49 (cM 0),cO 50 (cM 12),cO 51 (cM 13),cO 52 (cM 14),cO 53 (cM 3),cO 54 (call (cF 167) [t 49,t 50,t 51,t 52,t 11,t 53]),cO 13 (cM 54)])) skip)).seq ((ops 0 [cO 55 (cD 11)]).seq (block 0 ((ops 0 [cO 58 (cB .eql (t 55) (cN 0)),cO 57 (cM 58)]).seq (C2.cond (t 57) ((ops 0 [cO 59 (cM 13),cO 8 (cM 59),cO 9 (mov (cN 1))]).seq ret) ((ops 0 [cO 61 (cB .eql (t 55) (cN 12)),cO 60 (cM 61)]).seq (C2.cond (t 60) ((ops 0 [cO 62 (cM 13),cO 8 (cM 62),cO 9 (mov (cN 2))]).seq ret) ((ops 0 [cO 56 (cM 13),cO 8 (cM 56),cO 9 (mov (cN 0))]).seq ret)))))))))))))))
theorem yM:Is Tryz.prog 152 zo:=Is.mk' Tryz.func152 (by kernel_rfl)
def zm:F2:=(F2.mk 34 [] ((ops 0 [cO 10 (cM 1),cO 8 (cM 10)]).seq ((ops 0 [cO 11 (cM 2),cO 12 (cB .sub (t 11) (cN 1)),cO 9 (cM 12)]).seq (block 0 (((ops 0 [cO 13 (cM 8),cO 14 (cM 9),cO 15 (cB .lss (t 13) (t 14))]).seq (C2.cond (t 15) skip (exit 0))).seq (block 1 ((ops 1 [cO 16 (cM 0),cO 17 (cM 8),cO 18 (cM 0),cO 19 (cM 9),cO 20 (cM 0),cO 21 (cM 9),cO 22 (ixaS 1 (t 20) (t 21)),cO 23 (cD 22),cO 24 (cM 0),cO 25 (cM 8),cO 26 (ixaS 1 (t 24) (t 25)),cO 27 (cD 26),cO 28 (ixaS 1 (t 16) (t 17)),Op2.mk none none (Ins.st 1 (t 28) (t 23)),cO 29 (ixaS 1 (t 18) (t 19)),Op2.mk none none (Ins.st 1 (t 29) (t 27))]).seq ((ops 0 [cO 30 (cM 8),cO 31 (cB .add (t 30) (cN 1)),cO 8 (cM 31)]).seq (ops 0 [cO 32 (cM 9),cO 33 (cB .sub (t 32) (cN 1)),cO 9 (cM 33)]))))).loop))))
theorem yk:Is Tryz.prog 153 zm:=Is.mk' Tryz.func153 (by kernel_rfl)
def yT:F2:=(F2.mk 141 [RV.t 8] ((ops 0 [cO 8 (mov av)]).seq ((ops 0 [cO 13 (cM 1),cO 14 (cB .add (t 13) (cN 1)),cO 9 (cM 14)]).seq (((ops 0 [cO 10 (mov (cN 0))]).seq (block 0 (((ops 0 [cO 15 (cM 10),cO 16 (cB .lss (t 15) (cN 5))]).seq (C2.cond (t 16) skip (exit 0))).seq ((block 1 ((block 2 (((mixS 1 [cO 19 (cM 9),cO 20 (cM 2),cO 21 (cB .lss (t 19) (t 20)),cO 22 (cM 21),cG 23 22 true (cM 3),cG 24 22 true (cM 0),cG 25 22 true (cM 9),cG 26 22 true (ixaS 1 (t 24) (t 25)),cG 27 22 true (cD 26),cG 28 22 true (cM 0),cG 29 22 true (cM 9),cG 30 22 true (cB .sub (t 29) (cN 1)),cG 31 22 true (ixaS 1 (t 28) (t 30)),cG 32 22 true (cD 31),cG 33 22 true (call (t 23) [t 27,t 32]),cG 34 22 true (cB .lss (t 33) (cN 0)),cG 35 22 true (un UnOp.not (t 34)),cO 36 (pick (t 22) (t 35) av)] [(0,0),(1,0),(2,0),(3,0),(4,0),(5,0),(6,0),(7,0),(8,0),(9,0),(10,0),(11,0),(12,0),(13,0),(14,2),(15,0),(16,0),(17,0)]).seq (C2.cond (t 36) skip (exit 2))).seq (block 3 (ops 0 [cO 37 (cM 9),cO 38 (cB .add (t 37) (cN 1)),cO 9 (cM 38)]))).loop).seq (((ops 0 [cO 39 (cM 9),cO 40 (cM 2),cO 41 (cB .eql (t 39) (t 40))]).seq (C2.cond (t 41) ((ops 0 [cO 8 (mov aF)]).seq ret) skip)).seq (((ops 0 [cO 42 (cM 2),cO 43 (cM 1),cO 44 (cB .sub (t 42) (t 43)),cO 45 (cB .lss (t 44) (cN 50))]).seq (C2.cond (t 45) ((ops 0 [cO 8 (mov av)]).seq ret) skip)).seq ((ops 1 [cO 46 (cM 0),cO 47 (cM 9),cO 48 (cM 0),cO 49 (cM 9),cO 50 (cB .sub (t 49) (cN 1)),cO 51 (cM 0),cO 52 (cM 9),cO 53 (cB .sub (t 52) (cN 1)),cO 54 (ixaS 1 (t 51) (t 53)),cO 55 (cD 54),cO 56 (cM 0),cO 57 (cM 9),cO 58 (ixaS 1 (t 56) (t 57)),cO 59 (cD 58),cO 60 (ixaS 1 (t 46) (t 47)),Op2.mk none none (Ins.st 1 (t 60) (t 55)),cO 61 (ixaS 1 (t 48) (t 50)),Op2.mk none none (Ins.st 1 (t 61) (t 59))]).seq (((ops 0 [cO 62 (cM 9),cO 63 (cM 1),cO 64 (cB .sub (t 62) (t 63)),cO 65 (cB .geq (t 64) (cN 2))]).seq (C2.cond (t 65) ((ops 0 [cO 66 (cM 9),cO 67 (cB .sub (t 66) (cN 1)),cO 11 (cM 67)]).seq (block 4 (((ops 0 [cO 68 (cM 11),cO 69 (cB .geq (t 68) (cN 1))]).seq (C2.cond (t 69) skip (exit 4))).seq ((block 5 (((mixS 1 [cO 72 (cM 3),cO 73 (cM 0),cO 74 (cM 11),cO 75 (ixaS 1 (t 73) (t 74)),cO 76 (cD 75),cO 77 (cM 0),cO 78 (cM 11),cO 79 (cB .sub (t 78) (cN 1)),cO 80 (ixaS 1 (t 77) (t 79)),cO 81 (cD 80),cO 82 (call (t 72) [t 76,t 81]),cO 83 (cB .lss (t 82) (cN 0)),cO 84 (un UnOp.not (t 83))] [(0,0),(1,0),(2,0),(3,0),(4,0),(5,0),(6,0),(7,0),(8,0),(9,0),(10,2),(11,0),(12,0)]).seq (C2.cond (t 84) (exit 4) skip)).seq (ops 1 [cO 85 (cM 0),cO 86 (cM 11),cO 87 (cM 0),cO 88 (cM 11),cO 89 (cB .sub (t 88) (cN 1)),cO 90 (cM 0),cO 91 (cM 11),cO 92 (cB .sub (t 91) (cN 1)),cO 93 (ixaS 1 (t 90) (t 92)),cO 94 (cD 93),cO 95 (cM 0),cO 96 (cM 11),cO 97 (ixaS 1 (t 95) (t 96)),cO 98 (cD 97),cO 99 (ixaS 1 (t 85) (t 86)),Op2.mk none none (Ins.st 1 (t 99) (t 94)),cO 100 (ixaS 1 (t 87) (t 89)),Op2.mk none none (Ins.st 1 (t 100) (t 98))]))).seq (ops 0 [cO 70 (cM 11),cO 71 (cB .sub (t 70) (cN 1)),cO 11 (cM 71)]))).loop)) skip)).seq ((ops 0 [cO 101 (cM 2),cO 102 (cM 9),cO 103 (cB .sub (t 101) (t 102)),cO 104 (cB .geq (t 103) (cN 2))]).seq (C2.cond (t 104) ((ops 0 [cO 105 (cM 9),cO 106 (cB .add (t 105) (cN 1)),cO 12 (cM 106)]).seq (block 6 (((ops 0 [cO 107 (cM 12),cO 108 (cM 2),cO 109 (cB .lss (t 107) (t 108))]).seq (C2.cond (t 109) skip (exit 6))).seq ((block 7 (((mixS 1 [cO 112 (cM 3),cO 113 (cM 0),cO 114 (cM 12),cO 115 (ixaS 1 (t 113) (t 114)),cO 116 (cD 115),cO 117 (cM 0),cO 118 (cM 12),cO 119 (cB .sub (t 118) (cN 1)),cO 120 (ixaS 1 (t 117) (t 119)),cO 121 (cD 120),cO 122 (call (t 112) [t 116,t 121]),cO 123 (cB .lss (t 122) (cN 0)),cO 124 (un UnOp.not (t 123))] [(0,0),(1,0),(2,0),(3,0),(4,0),(5,0),(6,0),(7,0),(8,0),(9,0),(10,2),(11,0),(12,0)]).seq (C2.cond (t 124) (exit 6) skip)).seq (ops 1 [cO 125 (cM 0),cO 126 (cM 12),cO 127 (cM 0),cO 128 (cM 12),cO 129 (cB .sub (t 128) (cN 1)),cO 130 (cM 0),cO 131 (cM 12),cO 132 (cB .sub (t 131) (cN 1)),cO 133 (ixaS 1 (t 130) (t 132)),cO 134 (cD 133),cO 135 (cM 0),cO 136 (cM 12),cO 137 (ixaS 1 (t 135) (t 136)),cO 138 (cD 137),cO 139 (ixaS 1 (t 125) (t 126)),Op2.mk none none (Ins.st 1 (t 139) (t 134)),cO 140 (ixaS 1 (t 127) (t 129)),Op2.mk none none (Ins.st 1 (t 140) (t 138))]))).seq (ops 0 [cO 110 (cM 12),cO 111 (cB .add (t 110) (cN 1)),cO 12 (cM 111)]))).loop)) skip)))))))).seq (ops 0 [cO 17 (cM 10),cO 18 (cB .add (t 17) (cN 1)),cO 10 (cM 18)]))).loop)).seq ((ops 0 [cO 8 (mov av)]).seq ret)))))
theorem x5:Is Tryz.prog 154 yT:=Is.mk' Tryz.func154 (by kernel_rfl)
def zQ:F2:=(F2.mk 90 [RV.t 10] ((ops 0 [cO 10 (mov (cN 0))]).seq ((ops 1 [cO 13 (cM 0),cO 14 (cM 1),cO 15 (cM 0),cO 16 (cM 3),cO 17 (cM 0),cO 18 (cM 3),cO 19 (ixaS 1 (t 17) (t 18)),cO 20 (cD 19),cO 21 (cM 0),cO 22 (cM 1),cO 23 (ixaS 1 (t 21) (t 22)),cO 24 (cD 23),cO 25 (ixaS 1 (t 13) (t 14)),Op2.mk none none (Ins.st 1 (t 25) (t 20)),cO 26 (ixaS 1 (t 15) (t 16)),Op2.mk none none (Ins.st 1 (t 26) (t 24))]).seq ((ops 0 [cO 27 (cM 1),cO 28 (cB .add (t 27) (cN 1)),cO 29 (cM 2),cO 30 (cB .sub (t 29) (cN 1)),cO 11 (cM 28),cO 12 (cM 30)]).seq ((block 0 (block 1 ((block 2 (((mixS 1 [cO 31 (cM 11),cO 32 (cM 12),cO 33 (cB .leq (t 31) (t 32)),cO 34 (cM 33),cG 35 34 true (cM 4),cG 36 34 true (cM 0),cG 37 34 true (cM 1),cG 38 34 true (ixaS 1 (t 36) (t 37)),cG 39 34 true (cD 38),cG 40 34 true (cM 0),cG 41 34 true (cM 11),cG 42 34 true (ixaS 1 (t 40) (t 41)),cG 43 34 true (cD 42),cG 44 34 true (call (t 35) [t 39,t 43]),cG 45 34 true (cB .lss (t 44) (cN 0)),cG 46 34 true (un UnOp.not (t 45)),cO 47 (pick (t 34) (t 46) av)] [(0,0),(1,0),(2,0),(3,0),(4,0),(5,0),(6,0),(7,0),(8,0),(9,0),(10,0),(11,0),(12,0),(13,2),(14,0),(15,0),(16,0)]).seq (C2.cond (t 47) skip (exit 2))).seq (block 3 (ops 0 [cO 48 (cM 11),cO 49 (cB .add (t 48) (cN 1)),cO 11 (cM 49)]))).loop).seq ((block 4 (((mixS 1 [cO 50 (cM 11),cO 51 (cM 12),cO 52 (cB .leq (t 50) (t 51)),cO 53 (cM 52),cG 54 53 true (cM 4),cG 55 53 true (cM 0),cG 56 53 true (cM 1),cG 57 53 true (ixaS 1 (t 55) (t 56)),cG 58 53 true (cD 57),cG 59 53 true (cM 0),cG 60 53 true (cM 12),cG 61 53 true (ixaS 1 (t 59) (t 60)),cG 62 53 true (cD 61),cG 63 53 true (call (t 54) [t 58,t 62]),cG 64 53 true (cB .lss (t 63) (cN 0)),cO 65 (pick (t 53) (t 64) av)] [(0,0),(1,0),(2,0),(3,0),(4,0),(5,0),(6,0),(7,0),(8,0),(9,0),(10,0),(11,0),(12,0),(13,2),(14,0),(15,0)]).seq (C2.cond (t 65) skip (exit 4))).seq (block 5 (ops 0 [cO 66 (cM 12),cO 67 (cB .sub (t 66) (cN 1)),cO 12 (cM 67)]))).loop).seq (((ops 0 [cO 68 (cM 11),cO 69 (cM 12),cO 70 (cB .gtr (t 68) (t 69))]).seq (C2.cond (t 70) (exit 0) skip)).seq ((ops 1 [cO 71 (cM 0),cO 72 (cM 11),cO 73 (cM 0),cO 74 (cM 12),cO 75 (cM 0),cO 76 (cM 12),cO 77 (ixaS 1 (t 75) (t 76)),cO 78 (cD 77),cO 79 (cM 0),cO 80 (cM 11),cO 81 (ixaS 1 (t 79) (t 80)),cO 82 (cD 81),cO 83 (ixaS 1 (t 71) (t 72)),Op2.mk none none (Ins.st 1 (t 83) (t 78)),cO 84 (ixaS 1 (t 73) (t 74)),Op2.mk none none (Ins.st 1 (t 84) (t 82))]).seq ((ops 0 [cO 85 (cM 11),cO 86 (cB .add (t 85) (cN 1)),cO 11 (cM 86)]).seq (ops 0 [cO 87 (cM 12),cO 88 (cB .sub (t 87) (cN 1)),cO 12 (cM 88)]))))))).loop).seq ((ops 0 [cO 89 (cM 11),cO 10 (cM 89)]).seq ret))))))
theorem yB:Is Tryz.prog 155 zQ:=Is.mk' Tryz.func155 (by kernel_rfl)
def zF:F2:=(F2.mk 178 [RV.t 10,RV.t 11] ((ops 0 [cO 10 (mov (cN 0)),cO 11 (mov av)]).seq ((ops 1 [cO 14 (cM 0),cO 15 (cM 1),cO 16 (cM 0),cO 17 (cM 3),cO 18 (cM 0),cO 19 (cM 3),cO 20 (ixaS 1 (t 18) (t 19)),cO 21 (cD 20),cO 22 (cM 0),cO 23 (cM 1),cO 24 (ixaS 1 (t 22) (t 23)),cO 25 (cD 24),cO 26 (ixaS 1 (t 14) (t 15)),Op2.mk none none (Ins.st 1 (t 26) (t 21)),cO 27 (ixaS 1 (t 16) (t 17)),Op2.mk none none (Ins.st 1 (t 27) (t 25))]).seq ((ops 0 [cO 28 (cM 1),cO 29 (cB .add (t 28) (cN 1)),cO 30 (cM 2),cO 31 (cB .sub (t 30) (cN 1)),cO 12 (cM 29),cO 13 (cM 31)]).seq ((block 0 (((mixS 1 [cO 32 (cM 12),cO 33 (cM 13),cO 34 (cB .leq (t 32) (t 33)),cO 35 (cM 34),cG 36 35 true (cM 4),cG 37 35 true (cM 0),cG 38 35 true (cM 12),cG 39 35 true (ixaS 1 (t 37) (t 38)),cG 40 35 true (cD 39),cG 41 35 true (cM 0),cG 42 35 true (cM 1),cG 43 35 true (ixaS 1 (t 41) (t 42)),cG 44 35 true (cD 43),cG 45 35 true (call (t 36) [t 40,t 44]),cG 46 35 true (cB .lss (t 45) (cN 0)),cO 47 (pick (t 35) (t 46) av)] [(0,0),(1,0),(2,0),(3,0),(4,0),(5,0),(6,0),(7,0),(8,0),(9,0),(10,0),(11,0),(12,0),(13,2),(14,0),(15,0)]).seq (C2.cond (t 47) skip (exit 0))).seq (block 1 (ops 0 [cO 48 (cM 12),cO 49 (cB .add (t 48) (cN 1)),cO 12 (cM 49)]))).loop).seq ((block 2 (((mixS 1 [cO 50 (cM 12),cO 51 (cM 13),cO 52 (cB .leq (t 50) (t 51)),cO 53 (cM 52),cG 54 53 true (cM 4),cG 55 53 true (cM 0),cG 56 53 true (cM 13),cG 57 53 true (ixaS 1 (t 55) (t 56)),cG 58 53 true (cD 57),cG 59 53 true (cM 0),cG 60 53 true (cM 1),cG 61 53 true (ixaS 1 (t 59) (t 60)),cG 62 53 true (cD 61),cG 63 53 true (call (t 54) [t 58,t 62]),cG 64 53 true (cB .lss (t 63) (cN 0)),cG 65 53 true (un UnOp.not (t 64)),cO 66 (pick (t 53) (t 65) av)] [(0,0),(1,0),(2,0),(3,0),(4,0),(5,0),(6,0),(7,0),(8,0),(9,0),(10,0),(11,0),(12,0),(13,2),(14,0),(15,0),(16,0)]).seq (C2.cond (t 66) skip (exit 2))).seq (block 3 (ops 0 [cO 67 (cM 13),cO 68 (cB .sub (t 67) (cN 1)),cO 13 (cM 68)]))).loop).seq (((ops 0 [cO 69 (cM 12),cO 70 (cM 13),cO 71 (cB .gtr (t 69) (t 70))]).seq (C2.cond (t 71) ((ops 1 [cO 72 (cM 0),cO 73 (cM 13),cO 74 (cM 0),cO 75 (cM 1),cO 76 (cM 0),cO 77 (cM 1),cO 78 (ixaS 1 (t 76) (t 77)),cO 79 (cD 78),cO 80 (cM 0),cO 81 (cM 13),cO 82 (ixaS 1 (t 80) (t 81)),cO 83 (cD 82),cO 84 (ixaS 1 (t 72) (t 73)),Op2.mk none none (Ins.st 1 (t 84) (t 79)),cO 85 (ixaS 1 (t 74) (t 75)),Op2.mk none none (Ins.st 1 (t 85) (t 83))]).seq ((ops 0 [cO 86 (cM 13),cO 10 (cM 86),cO 11 (mov aF)]).seq ret)) skip)).seq ((ops 1 [cO 87 (cM 0),cO 88 (cM 12),cO 89 (cM 0),cO 90 (cM 13),cO 91 (cM 0),cO 92 (cM 13),cO 93 (ixaS 1 (t 91) (t 92)),cO 94 (cD 93),cO 95 (cM 0),cO 96 (cM 12),cO 97 (ixaS 1 (t 95) (t 96)),cO 98 (cD 97),cO 99 (ixaS 1 (t 87) (t 88)),Op2.mk none none (Ins.st 1 (t 99) (t 94)),cO 100 (ixaS 1 (t 89) (t 90)),Op2.mk none none (Ins.st 1 (t 100) (t 98))]).seq ((ops 0 [cO 101 (cM 12),cO 102 (cB .add (t 101) (cN 1)),cO 12 (cM 102)]).seq ((ops 0 [cO 103 (cM 13),cO 104 (cB .sub (t 103) (cN 1)),cO 13 (cM 104)]).seq ((block 4 (block 5 ((block 6 (((mixS 1 [cO 105 (cM 12),cO 106 (cM 13),cO 107 (cB .leq (t 105) (t 106)),cO 108 (cM 107),cG 109 108 true (cM 4),cG 110 108 true (cM 0),cG 111 108 true (cM 12),cG 112 108 true (ixaS 1 (t 110) (t 111)),cG 113 108 true (cD 112),cG 114 108 true (cM 0),cG 115 108 true (cM 1),cG 116 108 true (ixaS 1 (t 114) (t 115)),cG 117 108 true (cD 116),cG 118 108 true (call (t 109) [t 113,t 117]),cG 119 108 true (cB .lss (t 118) (cN 0)),cO 120 (pick (t 108) (t 119) av)] [(0,0),(1,0),(2,0),(3,0),(4,0),(5,0),(6,0),(7,0),(8,0),(9,0),(10,0),(11,0),(12,0),(13,2),(14,0),(15,0)]).seq (C2.cond (t 120) skip (exit 6))).seq (block 7 (ops 0 [cO 121 (cM 12),cO 122 (cB .add (t 121) (cN 1)),cO 12 (cM 122)]))).loop).seq ((block 8 (((mixS 1 [cO 123 (cM 12),cO 124 (cM 13),cO 125 (cB .leq (t 123) (t 124)),cO 126 (cM 125),cG 127 126 true (cM 4),cG 128 126 true (cM 0),cG 129 126 true (cM 13),cG 130 126 true (ixaS 1 (t 128) (t 129)),cG 131 126 true (cD 130),cG 132 126 true (cM 0),cG 133 126 true (cM 1),cG 134 126 true (ixaS 1 (t 132) (t 133)),cG 135 126 true (cD 134),cG 136 126 true (call (t 127) [t 131,t 135]),cG 137 126 true (cB .lss (t 136) (cN 0)),cG 138 126 true (un UnOp.not (t 137)),cO 139 (pick (t 126) (t 138) av)] [(0,0),(1,0),(2,0),(3,0),(4,0),(5,0),(6,0),(7,0),(8,0),(9,0),(10,0),(11,0),(12,0),(13,2),(14,0),(15,0),(16,0)]).seq (C2.cond (t 139) skip (exit 8))).seq (block 9 (ops 0 [cO 140 (cM 13),cO 141 (cB .sub (t 140) (cN 1)),cO 13 (cM 141)]))).loop).seq (((ops 0 [cO 142 (cM 12),cO 143 (cM 13),cO 144 (cB .gtr (t 142) (t 143))]).seq (C2.cond (t 144) (exit 4) skip)).seq ((ops 1 [cO 145 (cM 0),cO 146 (cM 12),cO 147 (cM 0),cO 148 (cM 13),cO 149 (cM 0),cO 150 (cM 13),cO 151 (ixaS 1 (t 149) (t 150)),cO 152 (cD 151),cO 153 (cM 0),cO 154 (cM 12),cO 155 (ixaS 1 (t 153) (t 154)),cO 156 (cD 155),cO 157 (ixaS 1 (t 145) (t 146)),Op2.mk none none (Ins.st 1 (t 157) (t 152)),cO 158 (ixaS 1 (t 147) (t 148)),Op2.mk none none (Ins.st 1 (t 158) (t 156))]).seq ((ops 0 [cO 159 (cM 12),cO 160 (cB .add (t 159) (cN 1)),cO 12 (cM 160)]).seq (ops 0 [cO 161 (cM 13),cO 162 (cB .sub (t 161) (cN 1)),cO 13 (cM 162)]))))))).loop).seq ((ops 1 [cO 163 (cM 0),cO 164 (cM 13),cO 165 (cM 0),cO 166 (cM 1),cO 167 (cM 0),cO 168 (cM 1),cO 169 (ixaS 1 (t 167) (t 168)),cO 170 (cD 169),cO 171 (cM 0),cO 172 (cM 13),cO 173 (ixaS 1 (t 171) (t 172)),cO 174 (cD 173),cO 175 (ixaS 1 (t 163) (t 164)),Op2.mk none none (Ins.st 1 (t 175) (t 170)),cO 176 (ixaS 1 (t 165) (t 166)),Op2.mk none none (Ins.st 1 (t 176) (t 174))]).seq ((ops 0 [cO 177 (cM 13),cO 10 (cM 177),cO 11 (mov av)]).seq ret)))))))))))))
theorem x3:Is Tryz.prog 156 zF:=Is.mk' Tryz.func156 (by kernel_rfl)
def zV:F2:=(F2.mk 82 [] ((ops 0 [cO 12 (cM 1),cO 10 (cM 12)]).seq (block 0 (block 1 ((ops 0 [cO 13 (cM 10),cO 14 (cB .mul (cN 2) (t 13)),cO 15 (cB .add (t 14) (cN 1)),cO 11 (cM 15)]).seq (((ops 0 [cO 16 (cM 11),cO 17 (cM 2),cO 18 (cB .geq (t 16) (t 17))]).seq (C2.cond (t 18) (exit 0) skip)).seq (((mixS 1 [cO 19 (cM 11),cO 20 (cB .add (t 19) (cN 1)),cO 21 (cM 2),cO 22 (cB .lss (t 20) (t 21)),cO 23 (cM 22),cG 24 23 true (cM 4),cG 25 23 true (cM 0),cG 26 23 true (cM 3),cG 27 23 true (cM 11),cG 28 23 true (cB .add (t 26) (t 27)),cG 29 23 true (ixaS 3 (t 25) (t 28)),cG 30 23 true (ldn 3 (t 29)),cG 31 23 true (cM 0),cG 32 23 true (cM 3),cG 33 23 true (cM 11),cG 34 23 true (cB .add (t 32) (t 33)),cG 35 23 true (cB .add (t 34) (cN 1)),cG 36 23 true (ixaS 3 (t 31) (t 35)),cG 37 23 true (ldn 3 (t 36)),cG 38 23 true (call (t 24) [t 30,t 37]),cG 39 23 true (cB .lss (t 38) (cN 0)),cO 40 (pick (t 23) (t 39) av)] [(0,0),(1,0),(2,0),(3,0),(4,0),(5,0),(6,0),(7,0),(8,0),(9,0),(10,0),(11,0),(12,0),(13,0),(14,0),(15,0),(16,0),(17,0),(18,0),(19,2),(20,0),(21,0)]).seq (C2.cond (t 40) (ops 0 [cO 41 (cM 11),cO 42 (cB .add (t 41) (cN 1)),cO 11 (cM 42)]) skip)).seq (((mixS 1 [cO 43 (cM 4),cO 44 (cM 0),cO 45 (cM 3),cO 46 (cM 10),cO 47 (cB .add (t 45) (t 46)),cO 48 (ixaS 3 (t 44) (t 47)),cO 49 (ldn 3 (t 48)),cO 50 (cM 0),cO 51 (cM 3),cO 52 (cM 11),cO 53 (cB .add (t 51) (t 52)),cO 54 (ixaS 3 (t 50) (t 53)),cO 55 (ldn 3 (t 54)),cO 56 (call (t 43) [t 49,t 55]),cO 57 (cB .lss (t 56) (cN 0)),cO 58 (un UnOp.not (t 57))] [(0,0),(1,0),(2,0),(3,0),(4,0),(5,0),(6,0),(7,0),(8,0),(9,0),(10,0),(11,0),(12,0),(13,2),(14,0),(15,0)]).seq (C2.cond (t 58) ret skip)).seq ((ops 1 [cO 59 (cM 0),cO 60 (cM 3),cO 61 (cM 10),cO 62 (cB .add (t 60) (t 61)),cO 63 (cM 0),cO 64 (cM 3),cO 65 (cM 11),cO 66 (cB .add (t 64) (t 65)),cO 67 (cM 0),cO 68 (cM 3),cO 69 (cM 11),cO 70 (cB .add (t 68) (t 69)),cO 71 (ixaS 3 (t 67) (t 70)),cO 72 (ldn 3 (t 71)),cO 73 (cM 0),cO 74 (cM 3),cO 75 (cM 10),cO 76 (cB .add (t 74) (t 75)),cO 77 (ixaS 3 (t 73) (t 76)),cO 78 (ldn 3 (t 77)),cO 79 (ixaS 3 (t 59) (t 62)),Op2.mk none none (Ins.st 3 (t 79) (t 72)),cO 80 (ixaS 3 (t 63) (t 66)),Op2.mk none none (Ins.st 3 (t 80) (t 78))]).seq (ops 0 [cO 81 (cM 11),cO 10 (cM 81)]))))))).loop)))
theorem x1:Is Tryz.prog 157 zV:=Is.mk' Tryz.func157 (by kernel_rfl)
def y8:F2:=(F2.mk 7 [RV.t 2] ((ops 0 [cO 2 (mov (c (AV.int IntKind.u64 (0))))]).seq ((ops 0 [cO 3 (cM 0),cO 4 (conv IntKind.u64 (t 3)),cO 5 (call (cF 112) [t 4]),cO 6 (cB .shl (c (AV.int IntKind.u64 (1))) (t 5)),cO 2 (cM 6)]).seq ret)))
theorem yh:Is Tryz.prog 158 y8:=Is.mk' Tryz.func158 (by kernel_rfl)
def yX:F2:=(F2.mk 33 [RV.t 2] ((ops 0 [cO 2 (mov (c (AV.int IntKind.u64 (0))))]).seq ((ops 1 [cO 3 (cM 0),cO 4 (nilck (t 3)),cO 5 (cD 4),cO 6 (cM 0),cO 7 (nilck (t 6)),cO 8 (cD 7),cO 9 (cB .shl (t 8) (c (AV.int IntKind.u64 (13)))),cO 10 (cB .xor (t 5) (t 9)),cO 11 (nilck (t 3)),Op2.mk none none (Ins.st 1 (t 11) (t 10))]).seq ((ops 1 [cO 12 (cM 0),cO 13 (nilck (t 12)),cO 14 (cD 13),cO 15 (cM 0),cO 16 (nilck (t 15)),cO 17 (cD 16),cO 18 (cB .shr (t 17) (c (AV.int IntKind.u64 (7)))),cO 19 (cB .xor (t 14) (t 18)),cO 20 (nilck (t 12)),Op2.mk none none (Ins.st 1 (t 20) (t 19))]).seq ((ops 1 [cO 21 (cM 0),cO 22 (nilck (t 21)),cO 23 (cD 22),cO 24 (cM 0),cO 25 (nilck (t 24)),cO 26 (cD 25),cO 27 (cB .shl (t 26) (c (AV.int IntKind.u64 (17)))),cO 28 (cB .xor (t 23) (t 27)),cO 29 (nilck (t 21)),Op2.mk none none (Ins.st 1 (t 29) (t 28))]).seq ((ops 0 [cO 30 (cM 0),cO 31 (nilck (t 30)),cO 32 (cD 31),cO 2 (cM 32)]).seq ret))))))
theorem xV:Is Tryz.prog 159 yX:=Is.mk' Tryz.func159 (by kernel_rfl)
def zD:F2:=(F2.mk 18 [RV.t 8] ((ops 0 [cO 8 (mov (cN 0))]).seq ((ops 0 [cO 9 (cM 0),cO 10 (cM 1),cO 11 (cB .sub (t 10) (cN 1)),cO 12 (cM 1),cO 13 (cM 1),cO 14 (cB .add (t 13) (cN 1)),cO 15 (cM 2),cO 16 (cM 3),cO 17 (call (cF 161) [t 9,t 11,t 12,t 14,t 15,t 16]),cO 8 (cM 17)]).seq ret)))
theorem yq:Is Tryz.prog 160 zD:=Is.mk' Tryz.func160 (by kernel_rfl)
def zl:F2:=(F2.mk 41 [RV.t 12] ((ops 0 [cO 12 (mov (cN 0))]).seq ((ops 0 [cO 14 (cM 0),cO 15 (cM 1),cO 16 (cM 2),cO 17 (cM 4),cO 18 (cM 5),cO 19 (call (cF 168) [t 14,t 15,t 16,t 17,t 18]),cO 13 (cM 19),cO 20 (ext (t 13) 0),cO 21 (ext (t 13) 1),cO 1 (cM 20),cO 2 (cM 21)]).seq ((ops 0 [cO 23 (cM 0),cO 24 (cM 2),cO 25 (cM 3),cO 26 (cM 4),cO 27 (cM 5),cO 28 (call (cF 168) [t 23,t 24,t 25,t 26,t 27]),cO 22 (cM 28),cO 29 (ext (t 22) 0),cO 30 (ext (t 22) 1),cO 2 (cM 29),cO 3 (cM 30)]).seq ((ops 0 [cO 32 (cM 0),cO 33 (cM 1),cO 34 (cM 2),cO 35 (cM 4),cO 36 (cM 5),cO 37 (call (cF 168) [t 32,t 33,t 34,t 35,t 36]),cO 31 (cM 37),cO 38 (ext (t 31) 0),cO 39 (ext (t 31) 1),cO 1 (cM 38),cO 2 (cM 39)]).seq ((ops 0 [cO 40 (cM 2),cO 12 (cM 40)]).seq ret))))))
theorem yJ:Is Tryz.prog 161 zl:=Is.mk' Tryz.func161 (by kernel_rfl)
def yO:F2:=(F2.mk 7 [RV.t 3] ((ops 0 [cO 3 (mov av)]).seq ((ops 0 [cO 4 (cM 0),cO 5 (cD 1),cO 6 (call (cF 15) [t 4,t 5]),cO 3 (cM 6)]).seq ret)))
theorem xS:Is Tryz.prog 162 yO:=Is.mk' Tryz.func162 (by kernel_rfl)
def BM:F2:=(F2.mk 19 [RV.t 4] ((ops 0 [cO 4 (mov (cN 0))]).seq (((ops 0 [cO 6 (cM 0),cO 7 (lenS (t 6)),cO 8 (mov (cN 0))]).seq (block 0 ((ops 0 [cO 9 (cB .lss (t 8) (t 7))]).seq ((C2.cond (t 9) skip (exit 0)).seq ((block 1 ((ops 0 [cO 10 (cM 8),cO 5 (cM 10)]).seq ((ops 0 [cO 11 (cM 1),cO 12 (cM 0),cO 13 (cM 5),cO 14 (ixaS 1 (t 12) (t 13)),cO 15 (cD 14),cO 16 (cB .eql (t 11) (t 15))]).seq (C2.cond (t 16) ((ops 0 [cO 17 (cM 5),cO 4 (cM 17)]).seq ret) skip)))).seq (ops 0 [cO 18 (cB .add (t 8) (cN 1)),cO 8 (cM 18)])))).loop)).seq ((ops 0 [cO 4 (mov (cN ((-1))))]).seq ret))))
theorem A1:Is Tryz.prog 163 BM:=Is.mk' Tryz.func163 (by kernel_rfl)
def zs:F2:=(F2.mk 82 [] ((ops 0 [cO 12 (cM 1),cO 10 (cM 12)]).seq (block 0 (block 1 ((ops 0 [cO 13 (cM 10),cO 14 (cB .mul (cN 2) (t 13)),cO 15 (cB .add (t 14) (cN 1)),cO 11 (cM 15)]).seq (((ops 0 [cO 16 (cM 11),cO 17 (cM 2),cO 18 (cB .geq (t 16) (t 17))]).seq (C2.cond (t 18) (exit 0) skip)).seq (((mixS 1 [cO 19 (cM 11),cO 20 (cB .add (t 19) (cN 1)),cO 21 (cM 2),cO 22 (cB .lss (t 20) (t 21)),cO 23 (cM 22),cG 24 23 true (cM 4),cG 25 23 true (cM 0),cG 26 23 true (cM 3),cG 27 23 true (cM 11),cG 28 23 true (cB .add (t 26) (t 27)),cG 29 23 true (ixaS 1 (t 25) (t 28)),cG 30 23 true (cD 29),cG 31 23 true (cM 0),cG 32 23 true (cM 3),cG 33 23 true (cM 11),cG 34 23 true (cB .add (t 32) (t 33)),cG 35 23 true (cB .add (t 34) (cN 1)),cG 36 23 true (ixaS 1 (t 31) (t 35)),cG 37 23 true (cD 36),cG 38 23 true (call (t 24) [t 30,t 37]),cG 39 23 true (cB .lss (t 38) (cN 0)),cO 40 (pick (t 23) (t 39) av)] [(0,0),(1,0),(2,0),(3,0),(4,0),(5,0),(6,0),(7,0),(8,0),(9,0),(10,0),(11,0),(12,0),(13,0),(14,0),(15,0),(16,0),(17,0),(18,0),(19,2),(20,0),(21,0)]).seq (C2.cond (t 40) (ops 0 [cO 41 (cM 11),cO 42 (cB .add (t 41) (cN 1)),cO 11 (cM 42)]) skip)).seq (((mixS 1 [cO 43 (cM 4),cO 44 (cM 0),cO 45 (cM 3),cO 46 (cM 10),cO 47 (cB .add (t 45) (t 46)),cO 48 (ixaS 1 (t 44) (t 47)),cO 49 (cD 48),cO 50 (cM 0),cO 51 (cM 3),cO 52 (cM 11),cO 53 (cB .add (t 51) (t 52)),cO 54 (ixaS 1 (t 50) (t 53)),cO 55 (cD 54),cO 56 (call (t 43) [t 49,t 55]),cO 57 (cB .lss (t 56) (cN 0)),cO 58 (un UnOp.not (t 57))] [(0,0),(1,0),(2,0),(3,0),(4,0),(5,0),(6,0),(7,0),(8,0),(9,0),(10,0),(11,0),(12,0),(13,2),(14,0),(15,0)]).seq (C2.cond (t 58) ret skip)).seq ((ops 1 [cO 59 (cM 0),cO 60 (cM 3),cO 61 (cM 10),cO 62 (cB .add (t 60) (t 61)),cO 63 (cM 0),cO 64 (cM 3),cO 65 (cM 11),cO 66 (cB .add (t 64) (t 65)),cO 67 (cM 0),cO 68 (cM 3),cO 69 (cM 11),cO 70 (cB .add (t 68) (t 69)),cO 71 (ixaS 1 (t 67) (t 70)),cO 72 (cD 71),cO 73 (cM 0),cO 74 (cM 3),cO 75 (cM 10),cO 76 (cB .add (t 74) (t 75)),cO 77 (ixaS 1 (t 73) (t 76)),cO 78 (cD 77),cO 79 (ixaS 1 (t 59) (t 62)),Op2.mk none none (Ins.st 1 (t 79) (t 72)),cO 80 (ixaS 1 (t 63) (t 66)),Op2.mk none none (Ins.st 1 (t 80) (t 78))]).seq (ops 0 [cO 81 (cM 11),cO 10 (cM 81)]))))))).loop)))
theorem yn:Is Tryz.prog 165 zs:=Is.mk' Tryz.func165 (by kernel_rfl)
def y3:F2:=(F2.mk 18 [RV.t 8] ((ops 0 [cO 8 (mov (cN 0))]).seq ((ops 0 [cO 9 (cM 0),cO 10 (cM 1),cO 11 (cB .sub (t 10) (cN 1)),cO 12 (cM 1),cO 13 (cM 1),cO 14 (cB .add (t 13) (cN 1)),cO 15 (cM 2),cO 16 (cM 3),cO 17 (call (cF 167) [t 9,t 11,t 12,t 14,t 15,t 16]),cO 8 (cM 17)]).seq ret)))
theorem yp:Is Tryz.prog 166 y3:=Is.mk' Tryz.func166 (by kernel_rfl)
def Ac:F2:=(F2.mk 41 [RV.t 12] ((ops 0 [cO 12 (mov (cN 0))]).seq ((ops 0 [cO 14 (cM 0),cO 15 (cM 1),cO 16 (cM 2),cO 17 (cM 4),cO 18 (cM 5),cO 19 (call (cF 169) [t 14,t 15,t 16,t 17,t 18]),cO 13 (cM 19),cO 20 (ext (t 13) 0),cO 21 (ext (t 13) 1),cO 1 (cM 20),cO 2 (cM 21)]).seq ((ops 0 [cO 23 (cM 0),cO 24 (cM 2),cO 25 (cM 3),cO 26 (cM 4),cO 27 (cM 5),cO 28 (call (cF 169) [t 23,t 24,t 25,t 26,t 27]),cO 22 (cM 28),cO 29 (ext (t 22) 0),cO 30 (ext (t 22) 1),cO 2 (cM 29),cO 3 (cM 30)]).seq ((ops 0 [cO 32 (cM 0),cO 33 (cM 1),cO 34 (cM 2),cO 35 (cM 4),cO 36 (cM 5),cO 37 (call (cF 169) [t 32,t 33,t 34,t 35,t 36]),cO 31 (cM 37),cO 38 (ext (t 31) 0),cO 39 (ext (t 31) 1),cO 1 (cM 38),cO 2 (cM 39)]).seq ((ops 0 [cO 40 (cM 2),cO 12 (cM 40)]).seq ret))))))
theorem yH:Is Tryz.prog 167 Ac:=Is.mk' Tryz.func167 (by kernel_rfl)
def yP:F2:=(F2.mk 32 [RV.t 10,RV.t 11] ((ops 0 [cO 10 (mov (cN 0)),cO 11 (mov (cN 0))]).seq (((mixS 1 [cO 12 (cM 4),cO 13 (cM 0),cO 14 (cM 2),cO 15 (ixaS 3 (t 13) (t 14)),cO 16 (ldn 3 (t 15)),cO 17 (cM 0),cO 18 (cM 1),cO 19 (ixaS 3 (t 17) (t 18)),cO 20 (ldn 3 (t 19)),cO 21 (call (t 12) [t 16,t 20]),cO 22 (cB .lss (t 21) (cN 0))] [(0,0),(1,0),(2,0),(3,0),(4,0),(5,0),(6,0),(7,0),(8,0),(9,2),(10,0)]).seq (C2.cond (t 22) ((ops 0 [cO 23 (cM 3),cO 24 (nilck (t 23)),cO 25 (cD 24),cO 26 (cB .add (t 25) (cN 1)),cO 27 (nilck (t 23)),Op2.mk none none (Ins.st 1 (t 27) (t 26))]).seq ((ops 0 [cO 28 (cM 2),cO 29 (cM 1),cO 10 (cM 28),cO 11 (cM 29)]).seq ret)) skip)).seq ((ops 0 [cO 30 (cM 1),cO 31 (cM 2),cO 10 (cM 30),cO 11 (cM 31)]).seq ret))))
theorem xY:Is Tryz.prog 168 yP:=Is.mk' Tryz.func168 (by kernel_rfl)
def Ab:F2:=(F2.mk 32 [RV.t 10,RV.t 11] ((ops 0 [cO 10 (mov (cN 0)),cO 11 (mov (cN 0))]).seq (((mixS 1 [cO 12 (cM 4),cO 13 (cM 0),cO 14 (cM 2),cO 15 (ixaS 1 (t 13) (t 14)),cO 16 (cD 15),cO 17 (cM 0),cO 18 (cM 1),cO 19 (ixaS 1 (t 17) (t 18)),cO 20 (cD 19),cO 21 (call (t 12) [t 16,t 20]),cO 22 (cB .lss (t 21) (cN 0))] [(0,0),(1,0),(2,0),(3,0),(4,0),(5,0),(6,0),(7,0),(8,0),(9,2),(10,0)]).seq (C2.cond (t 22) ((ops 0 [cO 23 (cM 3),cO 24 (nilck (t 23)),cO 25 (cD 24),cO 26 (cB .add (t 25) (cN 1)),cO 27 (nilck (t 23)),Op2.mk none none (Ins.st 1 (t 27) (t 26))]).seq ((ops 0 [cO 28 (cM 2),cO 29 (cM 1),cO 10 (cM 28),cO 11 (cM 29)]).seq ret)) skip)).seq ((ops 0 [cO 30 (cM 1),cO 31 (cM 2),cO 10 (cM 30),cO 11 (cM 31)]).seq ret))))
theorem x8:Is Tryz.prog 169 Ab:=Is.mk' Tryz.func169 (by kernel_rfl)
end Go.Proofs.YtjgpfclngkcedaaGreat
namespace Go.Proofs.YtjgpfclngkcedaaGreat
open Go Go.Abs
open Nat (reduceEqDiff reduceAdd reduceLeDiff)
abbrev Sh {α:Type} (l:List α):Prop:=l.length ≤ 17592186044416
structure CaseV where
 inp:List Int
 out:List (List Int)
 calm:List (List Int)
 deriving Inhabited,DecidableEq
structure TaskV where
 n:Int
 ins:Int
 outs:Int
 cases:List CaseV
 deriving Inhabited,DecidableEq
def cr (c:CaseV):AV:=.agg [aN c.inp,ax c.out,ax c.calm]
def aR (l:List CaseV):AV:=.sl 3 (l.map cr)
def bo (t:TaskV):AV:=.agg [.int .i64 t.n,.int .i64 t.ins,.int .i64 t.outs,aR t.cases]
def T00:TaskV:=⟨0,0,0,[]⟩
theorem i2 {H:Hp} (e:Int):Snap H (.tup [.agg [.int .i64 0,.int .i64 0,.int .i64 0,.esl],.int .i64 e]) (.tup [bo T00,.int .i64 e]):=by
 refine ik (az (g9 ?_) (az (.int _ _) af))
 exact az (.int _ _) (az (.int _ _) (az (.int _ _) (az (.eslsl 3) af)))
theorem rh {H:Hp} {d:Nat} {x:AV}:cP 1 (an H d [x]) (.msl d 1 1 0 1)=some (1,[x]):=kp (n:=1) (len:=1) (off:=0) (cs:=[x]) au rfl (by simp)
theorem e9 (l:List CaseV):Dat (aR l):=Dat.sl (fun x hx c hc=>by
 simp at hx; obtain ⟨q,_,rfl⟩:=hx
 simp only [cr,AV.cells,List.mem_cons,List.not_mem_nil,or_false] at hc
 rcases hc with rfl | rfl | rfl
 ·exact a9 _
 ·exact a7 _
 ·exact a7 _)
theorem bJ (t:TaskV):Dat (bo t):=by
 refine Dat.agg fun x hx=>?_
 simp only [List.mem_cons,List.not_mem_nil,or_false] at hx
 rcases hx with rfl | rfl | rfl | rfl
 ·exact .int
 ·exact .int
 ·exact .int
 ·exact e9 _
theorem sd (t:TaskV):(bo t).cells=[.int .i64 t.n,.int .i64 t.ins,.int .i64 t.outs,aR t.cases]:=rfl
theorem aj (l:List CaseV):(aR l).one=true:=rfl
theorem ab (l:List CaseV):(aR l).cells=[aR l]:=rfl
theorem aw (l:List CaseV):co (aR l)=some (.int .i64 l.length):=by simp [co,aR]
theorem bd {l:List CaseV} {k:Nat} (h:k < l.length):fj 3 (aR l) (.int .i64 k)=some (.iptr [aN (l.getD k default).inp,ax (l.getD k default).out,ax (l.getD k default).calm] 0):=by
 simp [fj,aR,h,List.getD,cr,AV.cells]
def ShC (c:CaseV):Prop:=Sh c.inp∧Sh c.out∧(∀ x ∈ c.out,Sh x)∧Sh c.calm∧∀ x ∈ c.calm,Sh x
def a8:List Int→List Int→Int
 | [],[]=>0
 | [],_ :: _=>-1
 | _ :: _,[]=>1
 | a :: l,b :: m=>if a < b then -1 else if a > b then 1 else a8 l m
def bB (f:Nat→Int):Nat→Int
 | 0=>0
 | n + 1=>if bB f n ≠ 0 then bB f n else f n
theorem bM {f:Nat→Int}:∀ {n:Nat},(∀ i,i < n→f i=0)→bB f n=0
 | 0,_=>rfl
 | n + 1,h=>by
  have:=bM (f:=f) (n:=n) (fun i hi=>h i (by omega))
  rw [bB,this,if_neg (by simp)]; exact h n (by omega)
theorem cw {f:Nat→Int}:∀ {n k:Nat},k < n→(∀ i,i < k→f i=0)→f k ≠ 0→bB f n=f k
 | 0,k,h,_,_=>absurd h (by omega)
 | n + 1,k,h,h0,hk=>by
  rw [bB]
  by_cases e:k=n
  ·subst e
   rw [bM h0,if_neg (by simp)]
  ·rw [cw (n:=n) (by omega) h0 hk,if_pos hk]
theorem dL {f:Nat→Int}:∀ {n:Nat},bB f n=0→∀ i,i < n→f i=0
 | 0,_,i,h=>absurd h (by omega)
 | n + 1,h,i,hi=>by
  rw [bB] at h
  by_cases e:bB f n=0
  ·rw [e,if_neg (by simp)] at h
   by_cases ei:i=n
   ·subst ei; exact h
   ·exact dL e i (by omega)
  ·rw [if_pos e] at h; exact absurd h e
def aW (v:List Int) (n most:Int):Int:=if (v.length:Int) ≠ n then 15 else if v.any (fun x=>decide (x < 0 ∨ most ≤ x)) then 2 else 0
def bA (l:List (List Int)) (i:Nat):Bool:=decide (0 < i) && decide (0 ≤ a8 (l.getD (i - 1) default) (l.getD i default))
def gd (n outs:Int) (l:List (List Int)) (k:Nat):Int:=if aW (l.getD k default) n outs ≠ 0 then aW (l.getD k default) n outs else if bA l k then 14 else 0
def fx (out calm:List (List Int)) (k:Nat):Int:=if calm.getD k default ∈ out then (if bA calm k then 14 else 0) else 6
def bk (n outs:Int) (c:CaseV):Int:=if c.out.length < 1 ∨ 1024 < c.out.length then 5 else if bB (gd n outs c.out) c.out.length ≠ 0 then bB (gd n outs c.out) c.out.length else bB (fx c.out c.calm) c.calm.length
def dX (t:TaskV) (k:Nat):Int:=if aW (t.cases.getD k default).inp t.n t.ins ≠ 0 then aW (t.cases.getD k default).inp t.n t.ins else if bA (t.cases.map CaseV.inp) k then 14 else bk t.n t.outs (t.cases.getD k default)
def aM (t:TaskV):Int:=if t.n < 1 ∨ 5 < t.n ∨ t.ins < 1 ∨ 8 < t.ins ∨ t.outs < 1 ∨ 8 < t.outs then 2 else if t.cases.length < 1 ∨ 1024 < t.cases.length then 5 else bB (dX t) t.cases.length
theorem cH:∀ l:List Int,a8 l l=0
 | []=>rfl
 | a :: l=>by rw [a8,if_neg (by omega),if_neg (by omega)]; exact cH l
theorem gf:∀ {l m:List Int},a8 l m=0→l=m
 | [],[],_=>rfl
 | [],_ :: _,h=>by simp [a8] at h
 | _ :: _,[],h=>by simp [a8] at h
 | a :: l,b :: m,h=>by
  rw [a8] at h
  split at h
  ·omega
  ·split at h
   ·omega
   ·rw [gf h,show a=b by omega]
theorem dI:∀ l m:List Int,a8 m l=- a8 l m
 | [],[]=>rfl
 | [],_ :: _=>rfl
 | _ :: _,[]=>rfl
 | a :: l,b :: m=>by
  rw [a8,a8]
  by_cases h:a < b
  ·rw [if_neg (by omega),if_pos (by omega),if_pos h]; rfl
  ·by_cases h2:b < a
   ·rw [if_pos h2,if_neg h,if_pos (by omega)]
   ·rw [if_neg h2,if_neg (by omega),if_neg h,if_neg (by omega)]; exact dI l m
theorem gF:∀ l m:List Int,a8 l m=-1 ∨ a8 l m=0 ∨ a8 l m=1
 | [],[]=>.inr (.inl rfl)
 | [],_ :: _=>.inl rfl
 | _ :: _,[]=>.inr (.inr rfl)
 | a :: l,b :: m=>by
  rw [a8]
  split
  ·exact .inl rfl
  ·split
   ·exact .inr (.inr rfl)
   ·exact gF l m
theorem ij:∀ {l m k:List Int},a8 l m < 0→a8 m k < 0→a8 l k < 0
 | [],[],k,h,_=>by simp [a8] at h
 | [],_ :: _,[],_,h=>by simp [a8] at h
 | [],_ :: _,_ :: _,_,_=>by simp [a8]
 | _ :: _,[],_,h,_=>by simp [a8] at h
 | _ :: _,_ :: _,[],_,h=>by simp [a8] at h
 | a :: l,b :: m,c :: k,h1,h2=>by
  rw [a8] at h1 h2 ⊢
  by_cases e1:a < b
  ·by_cases e2:b < c
   ·rw [if_pos (by omega)]; decide
   ·rw [if_neg e2] at h2
    by_cases e3:b > c
    ·rw [if_pos e3] at h2; omega
    ·rw [if_pos (by omega)]; decide
  ·rw [if_neg e1] at h1
   by_cases e4:a > b
   ·rw [if_pos e4] at h1; omega
   ·rw [if_neg e4] at h1
    by_cases e2:b < c
    ·rw [if_pos (by omega)]; decide
    ·rw [if_neg e2] at h2
     by_cases e3:b > c
     ·rw [if_pos e3] at h2; omega
     ·rw [if_neg e3] at h2
      rw [if_neg (by omega),if_neg (by omega)]
      exact ij h1 h2
theorem pF {l:List (List Int)} (h:∀ i,i < l.length→bA l i=false):∀ (j i:Nat),i < j→j < l.length→a8 (l.getD i default) (l.getD j default) < 0
 | 0,i,h1,_=>absurd h1 (by omega)
 | j + 1,i,h1,h2=>by
  have hj:=h (j + 1) h2
  unfold bA at hj
  rw [decide_eq_true (show 0 < j + 1 by omega),Bool.true_and,decide_eq_false_iff_not] at hj
  have hj':a8 (l.getD j default) (l.getD (j + 1) default) < 0:=by
   rw [show j + 1 - 1=j by omega] at hj; omega
  by_cases e:i=j
  ·subst e; exact hj'
  ·exact ij (pF h j i (by omega) (by omega)) hj'
attribute [local irreducible] aA ag aU aO aE aH ay aJ aQ aZ Go.Abs.Fn aL Go.Abs.Pure ak aB Yl
def uR (l:List Int) (p:Int→Bool):Int:=if l.any p then (l.findIdx p:Nat) else -1
theorem w9 {l:List Int} {p:Int→Bool} {k:Nat} (hk:k < l.length) (h:∀ i,i < k→p (l.getD i default)=false) (hv:p (l.getD k default)=true):uR l p=k:=by
 have e:l.getD k default=l[k]:=by simp [List.getD,hk]
 have hm:l.any p=true:=List.any_eq_true.2 ⟨l[k],List.getElem_mem hk,by rw [← e]; exact hv⟩
 unfold uR; rw [if_pos hm]
 have:l.findIdx p=k:=(List.findIdx_eq hk).2 ⟨by rw [← e]; exact hv,fun j hj=>by have:=h j hj; rwa [show l.getD j default=l[j] by simp [List.getD,show j < l.length by omega]] at this⟩
 rw [this]
theorem ul {l:List Int} {p:Int→Bool} (h:∀ i,i < l.length→p (l.getD i default)=false):l.any p=false:=by
 rw [List.any_eq_false]
 intro x hx
 obtain ⟨i,hi,e⟩:=List.getElem_of_mem hx
 have:=h i hi
 rw [show l.getD i default=l[i] by simp [List.getD,hi],e] at this
 simp [this]
theorem vn (l:List Int) (p:Int→Bool) (g:Nat) (caps:List AV) (hd:∀ x ∈ caps,Dat x) (hg:∀ x ∈ l,Pure Tryz.prog g (.int .i64 x :: caps) (.bool (p x))) (hl:Sh l):Pure Tryz.prog 117 [aN l,.func g caps] (.int .i64 (uR l p)):=by
 refine Pure.of_c2 follows x4 (Nat.le_of_ble_eq_true rfl) ?_
 simp only [zK,cO,cG,cN,cM,cD,cF,cB,av,aF]
 (have zz:=and_self; repeat' (first | refine zW ?_ | apply a_n | refine zO ?_ | refine vZ ?_ | fail)) <;> (try clear zz)
 refine ie (X:=Nat) (fun k=>[(0,aN l),(1,.func g caps),(6,aN l),(7,.int .i64 l.length),(8,.int .i64 k)]) (fun k=>k ≤ l.length∧∀ i,i < k→p (l.getD i default)=false) (fun k=>l.length - k) 0 ⟨Nat.zero_le _,by simp⟩ ag0 ?_
 rintro k ⟨h1,h2⟩
 (have zz:=and_self; repeat' (first | refine zW ?_ | apply a_n | apply a_x | apply a_r | refine zO ?_ | refine vZ ?_ | refine cZ ?_ (hp:=by exact hg _ (ai (by omega))) (hs:=by (first | refine ah ?_ rfl | apply ap); (repeat' (first | exact af | apply aC | apply aq | exact ao hd)); first | done | fail) | (refine zGZ ?_ ?_ <;> (intro _hg; try (exfalso; omega))) | refine ae rfl ?_ | refine r1Z ?_ | fail)) <;> (try clear zz)
 ·refine bq ?_
  rw [w9 (by omega) h2 _hg]
 ·refine ⟨k + 1,⟨by omega,fun i hi=>?_⟩,by omega,ag0,rfl,rfl⟩
  rcases Nat.lt_succ_iff_lt_or_eq.1 hi with h | rfl
  ·exact h2 i h
  ·exact _hg
 ·refine bq ?_
  unfold uR; rw [ul fun i hi=>h2 i (by omega)]; rfl
theorem qF (l:List Int) (p:Int→Bool) (g:Nat) (caps:List AV) (hd:∀ x ∈ caps,Dat x) (hg:∀ x ∈ l,Pure Tryz.prog g (.int .i64 x :: caps) (.bool (p x))) (hl:Sh l):Pure Tryz.prog 72 [aN l,.func g caps] (.bool (l.any p)):=by
 refine Pure.of_c2 follows AO (Nat.le_of_ble_eq_true rfl) ?_
 simp only [b72,cO,cG,cN,cM,cD,cF,cB,av,aF]
 (have zz:=and_self; repeat' (first | refine zW ?_ | apply a_n | refine zO ?_ | refine vZ ?_ | refine cZ ?_ (hp:=by exact vn l p g caps hd hg hl) (hs:=by (first | refine ah ?_ rfl | apply ap); (repeat' (first | exact af | apply aC | apply aq | exact Dat.func hd)); first | done | fail) | refine ae rfl ?_ | refine r1Z ?_ | fail)) <;> (try clear zz)
 refine bU ?_
 unfold uR; split <;> simp_all
theorem j8 (l:List Int) (hl:Sh l):fy Tryz.prog 42 [aN l] (aN l):=by
 refine fy.of_c2 follows y4 (Nat.le_of_ble_eq_true rfl) ?_
 simp only [b42,cO,cG,cN,cM,cD,cF,cB,av,aF]
 (have zz:=and_self; repeat' (first | refine zW ?_ | apply a_n | refine zO ?_ | refine vZ ?_ | fail)) <;> (try clear zz)
 refine pD (k:=l.length) (by ((try simp only [bn,ZA,reduceEqDiff,↓reduceIte,reduceAdd,reduceLeDiff]); (try with_reducible rfl)); exact r9) (fun h=>?_) (fun h=>?_) (fun h=>?_)
 ((all_goals (try have zz:=and_self)); (repeat' (first | refine zW ?_ | apply a_n | apply a_r | refine zO ?_ | refine vZ ?_ | refine b0Z ?_ | refine a0Z ?_ | refine cTZ ?_ | refine cFZ ?_ | refine ae rfl ?_ | refine r1Z ?_ | fail)); (all_goals (try clear zz)))
 ·exact oB au (by omega) rfl
 ·exact um h
 ·exact oB au (by omega) rfl
theorem f0 (l m:List Int) (hl:Sh l) (hm:Sh m):Pure Tryz.prog 15 [aN l,aN m] (.bool (decide (l=m))):=by
 refine Pure.of_c2 follows Ar (Nat.le_of_ble_eq_true rfl) ?_
 simp only [b15,cO,cG,cN,cM,cD,cF,cB,av,aF]
 (have zz:=and_self; repeat' (first | refine zW ?_ | apply a_n | apply a_r | refine zO ?_ | refine vZ ?_ | (refine zGZ ?_ ?_ <;> (intro _hg; try (exfalso; omega))) | refine ae rfl ?_ | refine r1Z ?_ | fail)) <;> (try clear zz)
 ·refine bU ?_
  symm; rw [decide_eq_false_iff_not]; rintro rfl; omega
 refine ie (X:=Nat) (fun k=>[(0,aN l),(1,aN m),(12,.int .i64 l.length),(13,.int .i64 k)]) (fun k=>k ≤ l.length∧∀ i,i < k→l.getD i default=m.getD i default) (fun k=>l.length - k) 0 ⟨Nat.zero_le _,by simp⟩ ag0 ?_
 rintro k ⟨h1,h2⟩
 (have zz:=and_self; repeat' (first | refine zW ?_ | apply a_n | apply a_x | apply a_r | refine zO ?_ | refine vZ ?_ | (refine zGZ ?_ ?_ <;> (intro _hg; try (exfalso; omega))) | refine ae rfl ?_ | refine r1Z ?_ | fail)) <;> (try clear zz)
 ·refine bU ?_
  symm; rw [decide_eq_false_iff_not]; rintro rfl; exact absurd rfl ‹_›
 ·refine ⟨k + 1,⟨by omega,fun i hi=>?_⟩,by omega,ag0,rfl,rfl⟩
  rcases Nat.lt_succ_iff_lt_or_eq.1 hi with h | rfl
  ·exact h2 i h
  ·omega
 ·refine bU ?_
  symm; rw [decide_eq_true_iff]
  refine List.ext_getElem (by omega) (fun i h3 h4=>?_)
  have:=h2 i (by omega)
  simpa [List.getD,h3,h4] using this
theorem xD (n:Int):Pure Tryz.prog 141 [.int .i64 n] (.bool false):=by
 refine Pure.of_c2 follows xX (Nat.le_of_ble_eq_true rfl) ?_
 simp only [zA,cO,cG,cN,cM,cD,cF,cB,av,aF]
 (have zz:=and_self; repeat' (first | refine zW ?_ | apply a_n | refine zO ?_ | refine vZ ?_ | refine ae rfl ?_ | refine r1Z ?_ | fail)) <;> (try clear zz)
 exact bU (by simp)
theorem Ax (a b:Int):Pure Tryz.prog 113 [.int .i64 a,.int .i64 b] (.int .i64 (if a < b then -1 else if a > b then 1 else 0)):=by
 refine Pure.of_c2 follows xR (Nat.le_of_ble_eq_true rfl) ?_
 simp only [zB,cO,cG,cN,cM,cD,cF,cB,av,aF]
 (have zz:=@Bool.false_eq_true; repeat' (first | refine zW ?_ | apply a_n | apply a_r | refine zO ?_ | refine vZ ?_ | refine cZ ?_ (hp:=by exact xD _) | refine cFZ ?_ | (refine zGZ ?_ ?_ <;> (intro _hg; try (exfalso; omega))) | refine ae rfl ?_ | refine r1Z ?_ | fail)) <;> (try clear zz)
 all_goals (refine bq ?_)
 ·rw [if_pos ‹_›]
 ·rw [if_neg ‹_›,if_pos ‹_›]
 ·rw [if_neg (by omega),if_neg (by omega)]
theorem iM (a b:List Int) (ha:Sh a) (hb:Sh b):Pure Tryz.prog 64 [aN a,aN b] (.int .i64 (a8 a b)):=by
 refine Pure.of_c2 follows AA (Nat.le_of_ble_eq_true rfl) ?_
 simp only [b64,cO,cG,cN,cM,cD,cF,cB,av,aF]
 (have zz:=and_self; repeat' (first | refine zW ?_ | apply a_n | refine zO ?_ | refine vZ ?_ | fail)) <;> (try clear zz)
 refine ie (X:=Nat) (fun k=>[(0,aN a),(1,aN b),(9,aN a),(10,.int .i64 a.length),(11,.int .i64 k)]) (fun k=>k ≤ a.length∧k ≤ b.length∧a8 a b=a8 (a.drop k) (b.drop k)) (fun k=>a.length - k) 0 ⟨Nat.zero_le _,Nat.zero_le _,rfl⟩ ag0 ?_
 rintro k ⟨h1,h2,h3⟩
 (have zz:=and_self; repeat' (first | refine zW ?_ | apply a_n | apply a_x | apply a_r | refine zO ?_ | refine vZ ?_ | refine cZ ?_ (hp:=by exact Ax _ _) | (refine zGZ ?_ ?_ <;> (intro _hg; try (exfalso; omega))) | refine ae rfl ?_ | refine r1Z ?_ | fail)) <;> (try clear zz)
 ·refine bq ?_
  rw [h3,List.drop_eq_nil_of_le (show b.length ≤ k by omega),bT (l:=a) (by omega)]; rfl
 ·refine bq ?_
  rw [h3,bT (l:=a) (by omega),bT (l:=b) (by omega),a8]
  split
  ·rfl
  ·rename_i h
   split
   ·rfl
   ·rename_i h'
    exact absurd (show (if a.getD k default < b.getD k default then (-1:Int) else if a.getD k default > b.getD k default then 1 else 0)=0 by rw [if_neg h,if_neg h']) ‹_›
 ·refine ⟨k + 1,⟨by omega,by omega,?_⟩,by omega,ag0,rfl,rfl⟩
  rw [h3,bT (l:=a) (by omega),bT (l:=b) (by omega),a8]
  by_cases h:a.getD k default < b.getD k default
  ·rw [if_pos h] at _hg; exact absurd (by decide) _hg
  ·by_cases h':a.getD k default > b.getD k default
   ·rw [if_neg h,if_pos h'] at _hg; exact absurd (by decide) _hg
   ·rw [if_neg h,if_neg h']
 ·refine bq ?_
  rw [h3,List.drop_eq_nil_of_le (show a.length ≤ k by omega),bT (l:=b) (by omega)]; rfl
 ·refine bq ?_
  rw [h3,List.drop_eq_nil_of_le (show a.length ≤ k by omega),List.drop_eq_nil_of_le (show b.length ≤ k by omega)]; rfl
theorem t8 (l:List (List Int)) (p:List Int→Bool) (g:Nat) (caps:List AV) (hd:∀ x ∈ caps,Dat x) (hg:∀ x ∈ l,Pure Tryz.prog g (aN x :: caps) (.bool (p x))) (hl:Sh l):Pure Tryz.prog 127 [ax l,.func g caps] (.int .i64 (if l.any p then (l.findIdx p:Nat) else -1)):=by
 refine Pure.of_c2 follows yw (Nat.le_of_ble_eq_true rfl) ?_
 simp only [zI,cO,cG,cN,cM,cD,cF,cB,av,aF]
 (have zz:=and_self; repeat' (first | refine zW ?_ | apply a_n | refine zO ?_ | refine vZ ?_ | fail)) <;> (try clear zz)
 refine ie (X:=Nat) (fun k=>[(0,ax l),(1,.func g caps),(7,.int .i64 l.length),(8,.int .i64 k)]) (fun k=>k ≤ l.length∧∀ i,i < k→p (l.getD i default)=false) (fun k=>l.length - k) 0 ⟨Nat.zero_le _,by simp⟩ ag0 ?_
 rintro k ⟨h1,h2⟩
 (have zz:=and_self; repeat' (first | refine zW ?_ | apply a_n | apply a_x | apply a_r | refine zO ?_ | refine vZ ?_ | refine cZ ?_ (hp:=by exact hg _ (ai (by omega))) (hs:=by (first | refine ah ?_ rfl | apply ap); (repeat' (first | exact af | apply aC | apply aq | exact ao hd)); first | done | fail) | (refine zGZ ?_ ?_ <;> (intro _hg; try (exfalso; omega))) | refine ae rfl ?_ | refine r1Z ?_ | fail)) <;> (try clear zz)
 ·refine bq ?_
  have hk:k < l.length:=by omega
  have e:l.getD k default=l[k]:=by simp [List.getD,hk]
  rw [e] at _hg
  have hm:l.any p=true:=List.any_eq_true.2 ⟨l[k],List.getElem_mem hk,_hg⟩
  rw [if_pos hm,(List.findIdx_eq hk).2 ⟨_hg,fun j hj=>by have:=h2 j hj; rwa [show l.getD j default=l[j] by simp [List.getD,show j < l.length by omega]] at this⟩]
 ·refine ⟨k + 1,⟨by omega,fun i hi=>?_⟩,by omega,ag0,rfl,rfl⟩
  rcases Nat.lt_succ_iff_lt_or_eq.1 hi with h | rfl
  ·exact h2 i h
  ·exact _hg
 ·refine bq ?_
  rw [if_neg]
  rw [Bool.not_eq_true,List.any_eq_false]
  intro x hx
  obtain ⟨i,hi,e⟩:=List.getElem_of_mem hx
  have:=h2 i (by omega)
  rw [show l.getD i default=x by simp [List.getD,hi,e]] at this
  simp [this]
theorem gv (l:List (List Int)) (p:List Int→Bool) (g:Nat) (caps:List AV) (hd:∀ x ∈ caps,Dat x) (hg:∀ x ∈ l,Pure Tryz.prog g (aN x :: caps) (.bool (p x))) (hl:Sh l):Pure Tryz.prog 96 [ax l,.func g caps] (.bool (l.any p)):=by
 refine Pure.of_c2 follows Bx (Nat.le_of_ble_eq_true rfl) ?_
 simp only [b96,cO,cG,cN,cM,cD,cF,cB,av,aF]
 (have zz:=and_self; repeat' (first | refine zW ?_ | apply a_n | refine zO ?_ | refine vZ ?_ | refine cZ ?_ (hp:=by exact t8 l p g caps hd hg hl) (hs:=by (first | refine ah ?_ rfl | apply ap); (repeat' (first | exact af | apply aC | apply aq | exact Dat.func hd)); first | done | fail) | refine ae rfl ?_ | refine r1Z ?_ | fail)) <;> (try clear zz)
 refine bU ?_
 split <;> simp_all
end Go.Proofs.YtjgpfclngkcedaaGreat
namespace Go.Proofs.YtjgpfclngkcedaaGreat
open Go Go.Abs
open Nat (reduceEqDiff reduceAdd reduceLeDiff)
attribute [local irreducible] aA ag aU aO aE aH ay aJ aQ aZ Go.Abs.Fn aL Go.Abs.Pure ak aB Yl
theorem y7 (v x:List Int) (hv:Sh v) (hx:Sh x):Pure Tryz.prog 162 [aN x,.iptr [aN v] 0] (.bool (decide (x=v))):=by
 refine Pure.of_c2 follows xS (Nat.le_of_ble_eq_true rfl) ?_
 simp only [yO,cO,cG,cN,cM,cD,cF,cB,av,aF]
 (have zz:=and_self; repeat' (first | refine zW ?_ | apply a_n | refine zO ?_ | refine vZ ?_ | refine cZ ?_ (hp:=by exact f0 _ _ hx hv) | refine ae rfl ?_ | refine r1Z ?_ | fail)) <;> (try clear zz)
 exact .bool _
theorem AM (l:List (List Int)) (v:List Int) (hl:Sh l) (hs:∀ x ∈ l,Sh x) (hv:Sh v):Pure Tryz.prog 144 [ax l,aN v] (.bool (l.any fun x=>decide (x=v))):=by
 refine Pure.of_c2 follows yI (Nat.le_of_ble_eq_true rfl) ?_
 simp only [Ah,cO,cG,cN,cM,cD,cF,cB,av,aF]
 (have zz:=and_self; repeat' (first | refine zW ?_ | apply a_n | refine zO ?_ | refine vZ ?_ | refine bxZ ?_ | fail)) <;> (try clear zz)
 refine cE ev0 ev0 (gv l (fun x=>decide (x=v)) 162 [.iptr [aN v] 0] (DatL.cons (Dat.iptr (DatL.cons (a9 _) DatL.nil)) DatL.nil) (fun x hx=>y7 v x hv (hs x hx)) hl) (ah (by (repeat' (first | exact af | exact Dat.snap Dat.int | exact Dat.snap Dat.bool | exact Dat.snap Dat.str | exact Dat.snap Dat.esl | exact Dat.snap Dat.nilf | exact Dat.snap (a9 _) | exact Dat.snap (a7 _) | apply az | apply dY | apply d6 | (apply d7; (focus ((try simp only [bn,ZA,reduceEqDiff,↓reduceIte,reduceAdd,reduceLeDiff]); with_reducible rfl)); (focus rfl))))) rfl) ?_
 (have zz:=and_self; repeat' (first | apply a_n | refine zO ?_ | refine vZ ?_ | refine ae rfl ?_ | refine r1Z ?_ | fail)) <;> (try clear zz)
 exact .bool _
theorem t7 (x most:Int):Pure Tryz.prog 142 [.int .i64 x,.iptr [.int .i64 most] 0] (.bool (decide (x < 0 ∨ most ≤ x))):=by
 refine Pure.of_c2 follows xN (Nat.le_of_ble_eq_true rfl) ?_
 simp only [yS,cO,cG,cN,cM,cD,cF,cB,av,aF]
 (have zz:=and_self; repeat' (first | refine zW ?_ | apply a_n | refine zO ?_ | refine vZ ?_ | refine gTZ ?_ | refine gFZ ?_ | (refine zGZ ?_ ?_ <;> (intro _hg; try (exfalso; omega))) | refine ae rfl ?_ | refine r1Z ?_ | fail)) <;> (try clear zz)
 all_goals (refine bU ?_)
 ·exact decide_eq_decide.2 (by omega)
 ·rw [decide_eq_true (by omega)]
theorem lI (l:List (List Int)) (i:Nat) (hi:i < l.length) (hl:Sh l) (hs:∀ x ∈ l,Sh x):Pure Tryz.prog 143 [ax l,.int .i64 i] (.bool (decide (0 < i) && decide (0 ≤ a8 (l.getD (i - 1) default) (l.getD i default)))):=by
 refine Pure.of_c2 follows yD (Nat.le_of_ble_eq_true rfl) ?_
 simp only [zT,cO,cG,cN,cM,cD,cF,cB,av,aF]
 by_cases h0:i=0
 ·subst h0
  (have zz:=(show ((0:Nat):Int)=0 from rfl); repeat' (first | refine zW ?_ | refine zM ?_ | apply a_n | refine zO ?_ | refine vZ ?_ | refine gFZ ?_ | (refine zGZ ?_ ?_ <;> (intro _hg; try (exfalso; omega))) | refine ae rfl ?_ | refine r1Z ?_ | fail)) <;> (try clear zz)
  exact bU (by simp)
 ·have e:((i:Int) - 1).toNat=i - 1:=by omega
  have hc:=iM (l.getD (i - 1) default) (l.getD i default) (hs _ (ai (by omega))) (hs _ (ai (by omega)))
  (have zz:=@e; repeat' (first | refine zW ?_ | refine zM ?_ | apply a_n | refine zO ?_ | refine vZ ?_ | refine cZ ?_ (hp:=hc) | refine gTZ ?_ | (refine zGZ ?_ ?_ <;> (intro _hg; try (exfalso; omega))) | refine ae rfl ?_ | refine r1Z ?_ | fail)) <;> (try clear zz)
  refine bU ?_
  rw [decide_eq_true (show 0 < i by omega),Bool.true_and]
theorem B2 (tb tf:Bool) (n:Int) (h0:0 ≤ n) (h1:n ≤ 5):aV .shl tb tf (.int .i64 1) (.int .i64 n)=some (.int .i64 (2 ^ n.toNat:Nat)):=by
 have:n=0 ∨ n=1 ∨ n=2 ∨ n=3 ∨ n=4 ∨ n=5:=by omega
 rcases this with rfl | rfl | rfl | rfl | rfl | rfl <;> rfl
def ar (c:CaseV) (faulty:Int):List (List Int):=if faulty=0∧0 < c.calm.length then c.calm else c.out
def rz (a:Int):Int:=IntKind.wrap .i64 (BitVec.ofInt 64 a &&& BitVec.ofInt 64 1).toNat
def qQ (f:Int) (p:Nat):Int:=f.fdiv (2 ^ (min p 64))
theorem so (tb tf:Bool) (f:Int) (p:Nat):aV .shr tb tf (.int .i64 f) (.int .i64 p)=some (.int .i64 (qQ f p)):=by
 have h:¬ ((p:Int) < 0):=by omega
 simp only [aV,jC,h,if_false,or_true,if_true]
 rfl
theorem pm (tb tf:Bool) (a:Int):aV .and tb tf (.int .i64 a) (.int .i64 1)=some (.int .i64 (rz a)):=rfl
def b5 (v outs:List Int) (f:Int):Bool:=(List.range v.length).all fun p=>!(decide (rz (qQ f p)=0) && decide (outs.getD p default ≠ v.getD p default))
end Go.Proofs.YtjgpfclngkcedaaGreat
namespace Go.Proofs.YtjgpfclngkcedaaGreat
open Go Go.Abs
open Nat (reduceEqDiff reduceAdd reduceLeDiff)
theorem fm {t:TaskV} {k:Nat} (h:k < t.cases.length):(t.cases.map CaseV.inp).getD k default=(t.cases.getD k default).inp:=by simp [List.getD,h]
theorem pH (l:List (List Int)) (v:List Int):(l.any fun x=>decide (x=v))=decide (v ∈ l):=by
 by_cases h:v ∈ l
 ·rw [decide_eq_true h,List.any_eq_true]
  exact ⟨v,h,by simp⟩
 ·rw [decide_eq_false h,List.any_eq_false]
  intro x hx e
  rw [decide_eq_true_iff] at e
  subst e; exact h hx
attribute [local irreducible] aA ag aU aO aE aH ay aJ aQ aZ Go.Abs.Fn aL Go.Abs.Pure ak aB Yl
theorem qK (v:List Int) (n most:Int) (hv:Sh v):Pure Tryz.prog 115 [aN v,.int .i64 n,.int .i64 most] (.int .i64 (aW v n most)):=by
 refine Pure.of_c2 follows yo (Nat.le_of_ble_eq_true rfl) ?_
 simp only [zf,cO,cG,cN,cM,cD,cF,cB,av,aF]
 have hv':v.length ≤ 17592186044416:=hv
 by_cases hn:(v.length:Int)=n
 rotate_left
 ·have e:aW v n most=15:=by unfold aW; rw [if_pos hn]
  rw [e]
  (have zz:=and_self; repeat' (first | refine zW ?_ | apply a_n | apply a_r | refine zO ?_ | refine vZ ?_ | refine bxZ ?_ | (refine zGZ ?_ ?_ <;> (intro _hg; try (exfalso; omega))) | refine ae rfl ?_ | refine r1Z ?_ | fail)) <;> (try clear zz)
  all_goals exact .int _ _
 have e:aW v n most=if v.any (fun x=>decide (x < 0 ∨ most ≤ x)) then 2 else 0:=by unfold aW; rw [if_neg (fun h=>h hn)]
 rw [e]
 have hc:=qF v (fun x=>decide (x < 0 ∨ most ≤ x)) 142 [.iptr [.int .i64 most] 0] (DatL.cons (Dat.iptr (DatL.cons .int DatL.nil)) DatL.nil) (fun x _=>t7 x most) hv
 (have zz:=and_self; repeat' (first | refine zW ?_ | apply a_n | refine zO ?_ | refine vZ ?_ | refine bxZ ?_ | (refine zGZ ?_ ?_ <;> (intro _hg; try (exfalso; omega))) | fail)) <;> (try clear zz)
 refine cE ev0 ev0 hc (ah (by (repeat' (first | exact af | exact Dat.snap Dat.int | exact Dat.snap Dat.bool | exact Dat.snap Dat.str | exact Dat.snap Dat.esl | exact Dat.snap Dat.nilf | exact Dat.snap (a9 _) | exact Dat.snap (a7 _) | apply az | apply dY | apply d6 | (apply d7; (focus ((try simp only [bn,ZA,reduceEqDiff,↓reduceIte,reduceAdd,reduceLeDiff]); with_reducible rfl)); (focus rfl))))) rfl) ?_
 cases hb:v.any (fun x=>decide (x < 0 ∨ most ≤ x))
 ·(have zz:=@Bool.false_eq_true; repeat' (first | refine zW ?_ | apply a_n | refine zO ?_ | refine vZ ?_ | refine cFZ ?_ | refine ae rfl ?_ | refine r1Z ?_ | fail)) <;> (try clear zz)
  all_goals exact .int _ _
 ·(have zz:=@Bool.false_eq_true; repeat' (first | refine zW ?_ | apply a_n | apply a_r | refine zO ?_ | refine vZ ?_ | refine cTZ ?_ | refine ae rfl ?_ | refine r1Z ?_ | fail)) <;> (try clear zz)
  all_goals exact .int _ _
theorem tN (n ins outs:Int) (cs:AV) (hcs:Dat cs∧cs.cells=[cs]∧cs.one=true) (c:CaseV) (hs:ShC c):Pure Tryz.prog 116 [.agg [.int .i64 n,.int .i64 ins,.int .i64 outs,cs],.agg [aN c.inp,ax c.out,ax c.calm]] (.int .i64 (bk n outs c)):=by
 refine Pure.of_c2 follows yg (Nat.le_of_ble_eq_true rfl) ?_
 simp only [Ag,cO,cG,cN,cM,cD,cF,cB,av,aF]
 obtain ⟨hc1,hc2,hc3⟩:=hcs
 obtain ⟨s1,s2,s3,s4,s5⟩:=hs
 have s2':c.out.length ≤ 17592186044416:=s2
 have s4':c.calm.length ≤ 17592186044416:=s4
 by_cases h0:c.out.length < 1 ∨ 1024 < c.out.length
 ·have e:bk n outs c=5:=by unfold bk; rw [if_pos h0]
  rw [e]
  (have zz:=aI @hc2 @hc3; repeat' (first | refine zW ?_ | apply a_n | apply a_r | refine zO ?_ | refine vZ ?_ | refine bxZ ?_ | refine gTZ ?_ | refine gFZ ?_ | refine cTZ ?_ | (refine zGZ ?_ ?_ <;> (intro _hg; try (exfalso; omega))) | refine ae rfl ?_ | refine r1Z ?_ | fail)) <;> (try clear zz)
  all_goals exact .int _ _
 have e:bk n outs c=if bB (gd n outs c.out) c.out.length ≠ 0 then bB (gd n outs c.out) c.out.length else bB (fx c.out c.calm) c.calm.length:=by unfold bk; rw [if_neg h0]
 rw [e]
 (have zz:=aI @hc2 @hc3; repeat' (first | refine zW ?_ | apply a_n | refine zO ?_ | refine vZ ?_ | refine bxZ ?_ | refine gTZ ?_ | (refine zGZ ?_ ?_ <;> (intro _hg; try (exfalso; omega))) | fail)) <;> (try clear zz)
 refine ie (X:=Nat) (fun k=>[(2,.ptr 0 4 0),(3,.ptr 1 3 0),(21,ax c.out),(22,.int .i64 c.out.length),(23,.int .i64 k)]) (fun k=>k ≤ c.out.length∧∀ i,i < k→gd n outs c.out i=0) (fun k=>c.out.length - k) 0 ⟨Nat.zero_le _,fun i h=>absurd h (by omega)⟩ (by simp (disch:=omega) only [agr,ZG,reduceEqDiff,↓reduceIte,List.length_cons,List.length_nil,reduceAdd,Nat.zero_add]) ?_
 rintro k ⟨hk,hz⟩
 by_cases hj:k < c.out.length
 ·have hm:=ai hj
  have hv:=qK (c.out.getD k default) n outs (s3 _ hm)
  have hu:=lI c.out k hj s2 s3
  have ho:gd n outs c.out k=if aW (c.out.getD k default) n outs ≠ 0 then aW (c.out.getD k default) n outs else if bA c.out k then 14 else 0:=rfl
  change Pure _ _ _ (.bool (bA c.out k)) at hu
  generalize aW (c.out.getD k default) n outs=V at *
  by_cases hV:V=0
  ·subst hV
   cases hub:bA c.out k
   ·rw [hub] at hu ho
    (have zz:=aI @hc2 (aI @hc3 @Bool.false_eq_true); repeat' (first | refine zW ?_ | apply a_n | refine zO ?_ | refine vZ ?_ | refine cZ ?_ (hp:=by first | exact hv | exact hu) | refine cFZ ?_ | (refine zGZ ?_ ?_ <;> (intro _hg; try (exfalso; omega))) | fail)) <;> (try clear zz)
    refine ⟨k + 1,⟨by omega,fun i hi=>?_⟩,by omega,ag0,rfl,rfl⟩
    rcases Nat.lt_succ_iff_lt_or_eq.1 hi with h | rfl
    ·exact hz i h
    ·exact ho
   ·rw [hub] at hu ho
    (have zz:=aI @hc2 (aI @hc3 @Bool.false_eq_true); repeat' (first | refine zW ?_ | apply a_n | apply a_r | refine zO ?_ | refine vZ ?_ | refine cZ ?_ (hp:=by first | exact hv | exact hu) | refine cTZ ?_ | (refine zGZ ?_ ?_ <;> (intro _hg; try (exfalso; omega))) | refine ae rfl ?_ | refine r1Z ?_ | fail)) <;> (try clear zz)
    refine bq ?_
    rw [cw hj hz (by rw [ho]; decide),if_pos (by rw [ho]; decide),ho]; rfl
  ·have ho':gd n outs c.out k=V:=by rw [ho,if_pos hV]
   (have zz:=aI @hc2 (aI @hc3 @Bool.false_eq_true); repeat' (first | refine zW ?_ | apply a_n | apply a_r | refine zO ?_ | refine vZ ?_ | refine cZ ?_ (hp:=by first | exact hv | exact hu) | (refine zGZ ?_ ?_ <;> (intro _hg; try (exfalso; omega))) | refine ae rfl ?_ | refine r1Z ?_ | fail)) <;> (try clear zz)
   refine bq ?_
   rw [cw hj hz (by rw [ho']; exact hV),if_pos (by rw [ho']; exact hV),ho']
 ·have hz0:=bM (f:=gd n outs c.out) (n:=c.out.length) (fun i hi=>hz i (by omega))
  rw [hz0,if_neg (fun h=>h rfl)]
  (have zz:=aI @hc2 @hc3; repeat' (first | refine zW ?_ | apply a_n | apply a_x | refine zO ?_ | refine vZ ?_ | (refine zGZ ?_ ?_ <;> (intro _hg; try (exfalso; omega))) | fail)) <;> (try clear zz)
  refine ie (X:=Nat) (fun k=>[(2,.ptr 0 4 0),(3,.ptr 1 3 0),(43,ax c.calm),(44,.int .i64 c.calm.length),(45,.int .i64 k)]) (fun k=>k ≤ c.calm.length∧∀ i,i < k→fx c.out c.calm i=0) (fun k=>c.calm.length - k) 0 ⟨Nat.zero_le _,fun i h=>absurd h (by omega)⟩ ag0 ?_
  rintro k ⟨hk,hz⟩
  by_cases hj:k < c.calm.length
  ·have hm:=ai hj
   have hv:=AM c.out (c.calm.getD k default) s2 s3 (s5 _ hm)
   rw [pH] at hv
   have hu:=lI c.calm k hj s4 s5
   have ho:fx c.out c.calm k=if c.calm.getD k default ∈ c.out then (if bA c.calm k then 14 else 0) else 6:=rfl
   change Pure _ _ _ (.bool (bA c.calm k)) at hu
   by_cases hh:c.calm.getD k default ∈ c.out
   ·rw [decide_eq_true hh] at hv
    rw [if_pos hh] at ho
    cases hub:bA c.calm k
    ·rw [hub] at hu ho
     (have zz:=aI @hc2 (aI @hc3 @Bool.false_eq_true); repeat' (first | refine zW ?_ | apply a_n | refine zO ?_ | refine vZ ?_ | refine cZ ?_ (hp:=by first | exact hv | exact hu) | refine cFZ ?_ | (refine zGZ ?_ ?_ <;> (intro _hg; try (exfalso; omega))) | fail)) <;> (try clear zz)
     refine ⟨k + 1,⟨by omega,fun i hi=>?_⟩,by omega,ag0,rfl,rfl⟩
     rcases Nat.lt_succ_iff_lt_or_eq.1 hi with h | rfl
     ·exact hz i h
     ·exact ho
    ·rw [hub] at hu ho
     (have zz:=aI @hc2 (aI @hc3 @Bool.false_eq_true); repeat' (first | refine zW ?_ | apply a_n | apply a_r | refine zO ?_ | refine vZ ?_ | refine cZ ?_ (hp:=by first | exact hv | exact hu) | refine cTZ ?_ | refine cFZ ?_ | (refine zGZ ?_ ?_ <;> (intro _hg; try (exfalso; omega))) | refine ae rfl ?_ | refine r1Z ?_ | fail)) <;> (try clear zz)
     refine bq ?_
     rw [cw hj hz (by rw [ho]; decide),ho]; rfl
   ·rw [decide_eq_false hh] at hv
    rw [if_neg hh] at ho
    (have zz:=aI @hc2 (aI @hc3 @Bool.false_eq_true); repeat' (first | refine zW ?_ | apply a_n | apply a_r | refine zO ?_ | refine vZ ?_ | refine cZ ?_ (hp:=by first | exact hv | exact hu) | refine cTZ ?_ | (refine zGZ ?_ ?_ <;> (intro _hg; try (exfalso; omega))) | refine ae rfl ?_ | refine r1Z ?_ | fail)) <;> (try clear zz)
    refine bq ?_
    rw [cw hj hz (by rw [ho]; decide),ho]
  ·(have zz:=aI @hc2 @hc3; repeat' (first | refine zW ?_ | apply a_n | apply a_x | refine zO ?_ | refine vZ ?_ | (refine zGZ ?_ ?_ <;> (intro _hg; try (exfalso; omega))) | refine ae rfl ?_ | refine r1Z ?_ | fail)) <;> (try clear zz)
   refine bq ?_
   rw [bM fun i hi=>hz i (by omega)]
end Go.Proofs.YtjgpfclngkcedaaGreat
namespace Go.Proofs.YtjgpfclngkcedaaGreat
open Go Go.Abs
open Nat (reduceEqDiff reduceAdd reduceLeDiff)
attribute [local irreducible] aA ag aU aO aE aH ay aJ aQ aZ Go.Abs.Fn aL Go.Abs.Pure ak aB Yl
set_option maxHeartbeats 2000000 in
theorem tt (t:TaskV) (hs:∀ c ∈ t.cases,ShC c) (hsc:Sh t.cases):Pure Tryz.prog 71 [bo t] (.int .i64 (aM t)):=by
 refine Pure.of_c2 follows BH (Nat.le_of_ble_eq_true rfl) ?_
 simp only [b71,cO,cG,cN,cM,cD,cF,cB,av,aF]
 have hsc':t.cases.length ≤ 17592186044416:=hsc
 unfold bo
 by_cases h0:t.n < 1 ∨ 5 < t.n ∨ t.ins < 1 ∨ 8 < t.ins ∨ t.outs < 1 ∨ 8 < t.outs
 ·have e:aM t=2:=by unfold aM; rw [if_pos h0]
  rw [e]
  (have zz:=aI @aj (aI @ab @aw); repeat' (first | refine zW ?_ | apply a_n | apply a_r | refine zO ?_ | refine vZ ?_ | refine bxZ ?_ | refine gTZ ?_ | refine gFZ ?_ | refine cTZ ?_ | (refine zGZ ?_ ?_ <;> (intro _hg; try (exfalso; omega))) | refine ae rfl ?_ | refine r1Z ?_ | fail)) <;> (try clear zz)
  all_goals exact .int _ _
 by_cases h1:t.cases.length < 1 ∨ 1024 < t.cases.length
 ·have e:aM t=5:=by unfold aM; rw [if_neg h0,if_pos h1]
  rw [e]
  (have zz:=aI @aj (aI @ab @aw); repeat' (first | refine zW ?_ | apply a_n | apply a_r | refine zO ?_ | refine vZ ?_ | refine bxZ ?_ | refine gTZ ?_ | refine gFZ ?_ | refine cTZ ?_ | (refine zGZ ?_ ?_ <;> (intro _hg; try (exfalso; omega))) | refine ae rfl ?_ | refine r1Z ?_ | fail)) <;> (try clear zz)
  all_goals exact .int _ _
 have e:aM t=bB (dX t) t.cases.length:=by unfold aM; rw [if_neg h0,if_neg h1]
 rw [e]
 (have zz:=aI @aj (aI @ab @aw); repeat' (first | refine zW ?_ | apply a_n | refine zO ?_ | refine vZ ?_ | refine bxZ ?_ | refine gTZ ?_ | (refine zGZ ?_ ?_ <;> (intro _hg; try (exfalso; omega))) | fail)) <;> (try clear zz)
 refine be (X:=Nat) (fun k=>[(1,.ptr 0 4 0),(44,aR t.cases),(45,.int .i64 t.cases.length),(46,.int .i64 k)]) (fun k H nx=>k ≤ t.cases.length∧(∀ i,i < k→dX t i=0)∧1 ≤ nx∧H 0=some [.int .i64 t.n,.int .i64 t.ins,.int .i64 t.outs,aR t.cases]) (fun k=>t.cases.length - k) 0 ⟨Nat.zero_le _,fun i h=>absurd h (by omega),Nat.le_refl _,rfl⟩ (by simp (disch:=omega) only [agr,ZG,reduceEqDiff,↓reduceIte,List.length_cons,List.length_nil,reduceAdd]) ?_
 rintro k H nx ⟨hk,hz,hn,g0⟩
 by_cases hj:k < t.cases.length
 rotate_left
 ·(have zz:=aI @g0 (aI @aj (aI @ab (aI @aw (aI @bd @Bool.false_eq_true)))); repeat' (first | refine zW ?_ | apply a_n | apply a_x | refine zO ?_ | refine vY ?_ | (refine zGY ?_ ?_ <;> (intro _hg; try (exfalso; omega))) | refine ae rfl ?_ | refine r1Y ?_ | fail)) <;> (try clear zz)
  refine bq ?_
  rw [bM fun i hi=>hz i (by omega)]
 have hm:=ai hj
 have hsh:=hs _ hm
 have hv:=qK _ t.n t.ins hsh.1
 have hvs:=tN t.n t.ins t.outs (aR t.cases) ⟨e9 _,rfl,rfl⟩ _ hsh
 have d1:Dat (cr (t.cases.getD k default)):=Dat.agg (DatL.cons (a9 _) (DatL.cons (a7 _) (DatL.cons (a7 _) DatL.nil)))
 have d2:=bJ t
 unfold cr at d1
 unfold bo at d2
 have hce:dX t k=if aW (t.cases.getD k default).inp t.n t.ins ≠ 0 then aW (t.cases.getD k default).inp t.n t.ins else if bA (t.cases.map CaseV.inp) k then 14 else bk t.n t.outs (t.cases.getD k default):=rfl
 have fin:dX t k ≠ 0→bB (dX t) t.cases.length=dX t k:=fun h=>cw hj hz h
 have hnext:dX t k=0→∀ i,i < k + 1→dX t i=0:=fun h i hi=>by
  rcases Nat.lt_succ_iff_lt_or_eq.1 hi with h' | rfl
  ·exact hz i h'
  ·exact h
 by_cases hk0:k=0
 ·subst hk0
  have hu:bA (t.cases.map CaseV.inp) 0=false:=rfl
  rw [hu] at hce
  have hi0:fj 3 (aR t.cases) (.int .i64 0)=_:=bd (l:=t.cases) (k:=0) hj
  generalize aW (t.cases.getD 0 default).inp t.n t.ins=V at *
  generalize bk t.n t.outs (t.cases.getD 0 default)=W at *
  by_cases hV:V=0
  ·subst hV
   rw [if_neg (fun h=>h rfl),if_neg (by simp)] at hce
   by_cases hW:W=0
   ·subst hW
    (have zz:=aI @g0 (aI @aj (aI @ab (aI @aw (aI @bd (aI @Bool.false_eq_true (aI (show ((0:Nat):Int)=0 from rfl) @hi0)))))); repeat' (first | refine zW ?_ | refine zM ?_ | apply a_n | refine zO ?_ | refine vY ?_ | refine cY ?_ (hp:=by first | exact hv | exact hvs) | refine alY ?_ | refine stY ?_ | refine gFY ?_ | refine cFY ?_ | (refine zGY ?_ ?_ <;> (intro _hg; try (exfalso; omega))) | fail)) <;> (try clear zz)
    refine ⟨0 + 1,by omega,⟨by omega,hnext hce,by omega,?_⟩,by simp (disch:=omega) only [agr,ZG,reduceEqDiff,↓reduceIte,Int.zero_add]⟩
    rw [ac (by omega),ac (by omega),g0]
   ·(have zz:=aI @g0 (aI @aj (aI @ab (aI @aw (aI @bd (aI @Bool.false_eq_true (aI (show ((0:Nat):Int)=0 from rfl) @hi0)))))); repeat' (first | refine zW ?_ | refine zM ?_ | apply a_n | apply a_r | refine zO ?_ | refine vY ?_ | refine cY ?_ (hp:=by first | exact hv | exact hvs) | refine alY ?_ | refine stY ?_ | refine gFY ?_ | refine cFY ?_ | (refine zGY ?_ ?_ <;> (intro _hg; try (exfalso; omega))) | refine ae rfl ?_ | refine r1Y ?_ | fail)) <;> (try clear zz)
    refine bq ?_
    rw [fin (by rw [hce]; exact hW),hce]
  ·rw [if_pos hV] at hce
   (have zz:=aI @g0 (aI @aj (aI @ab (aI @aw (aI @bd (aI @Bool.false_eq_true (aI (show ((0:Nat):Int)=0 from rfl) @hi0)))))); repeat' (first | refine zW ?_ | apply a_n | apply a_r | refine zO ?_ | refine vY ?_ | refine cY ?_ (hp:=by first | exact hv | exact hvs) | refine alY ?_ | refine stY ?_ | (refine zGY ?_ ?_ <;> (intro _hg; try (exfalso; omega))) | refine ae rfl ?_ | refine r1Y ?_ | fail)) <;> (try clear zz)
   refine bq ?_
   rw [fin (by rw [hce]; exact hV),hce]
 ·have e1:(k:Int) - 1=((k - 1:Nat):Int):=by omega
  have ho:=iM (t.cases.getD (k - 1) default).inp (t.cases.getD k default).inp (hs _ (ai (by omega))).1 hsh.1
  have hi1:=bd (l:=t.cases) (k:=k - 1) (by omega)
  rw [← e1] at hi1
  have hu:bA (t.cases.map CaseV.inp) k=decide (0 ≤ a8 (t.cases.getD (k - 1) default).inp (t.cases.getD k default).inp):=by
   unfold bA
   rw [fm hj,fm (by omega),decide_eq_true (show 0 < k by omega),Bool.true_and]
  rw [hu] at hce
  generalize a8 (t.cases.getD (k - 1) default).inp (t.cases.getD k default).inp=O at *
  generalize aW (t.cases.getD k default).inp t.n t.ins=V at *
  generalize bk t.n t.outs (t.cases.getD k default)=W at *
  by_cases hV:V=0
  ·subst hV
   rw [if_neg (fun h=>h rfl)] at hce
   by_cases hO:0 ≤ O
   ·rw [decide_eq_true hO,if_pos rfl] at hce
    (have zz:=aI @g0 (aI @aj (aI @ab (aI @aw (aI @bd (aI @Bool.false_eq_true @hi1))))); repeat' (first | refine zW ?_ | refine zM ?_ | apply a_n | apply a_r | refine zO ?_ | refine vY ?_ | refine cY ?_ (hp:=by first | exact hv | exact hvs | exact ho) | refine alY ?_ | refine stY ?_ | refine gTY ?_ | (refine zGY ?_ ?_ <;> (intro _hg; try (exfalso; omega))) | refine ae rfl ?_ | refine r1Y ?_ | fail)) <;> (try clear zz)
    refine bq ?_
    rw [fin (by rw [hce]; decide),hce]
   ·rw [decide_eq_false hO,if_neg (by simp)] at hce
    by_cases hW:W=0
    ·subst hW
     (have zz:=aI @g0 (aI @aj (aI @ab (aI @aw (aI @bd (aI @Bool.false_eq_true @hi1))))); repeat' (first | refine zW ?_ | refine zM ?_ | apply a_n | refine zO ?_ | refine vY ?_ | refine cY ?_ (hp:=by first | exact hv | exact hvs | exact ho) | refine alY ?_ | refine stY ?_ | refine gTY ?_ | (refine zGY ?_ ?_ <;> (intro _hg; try (exfalso; omega))) | fail)) <;> (try clear zz)
     refine ⟨k + 1,by omega,⟨by omega,hnext hce,by omega,?_⟩,ag0⟩
     rw [ac (by omega),ac (by omega),g0]
    ·(have zz:=aI @g0 (aI @aj (aI @ab (aI @aw (aI @bd (aI @Bool.false_eq_true @hi1))))); repeat' (first | refine zW ?_ | refine zM ?_ | apply a_n | apply a_r | refine zO ?_ | refine vY ?_ | refine cY ?_ (hp:=by first | exact hv | exact hvs | exact ho) | refine alY ?_ | refine stY ?_ | refine gTY ?_ | (refine zGY ?_ ?_ <;> (intro _hg; try (exfalso; omega))) | refine ae rfl ?_ | refine r1Y ?_ | fail)) <;> (try clear zz)
     refine bq ?_
     rw [fin (by rw [hce]; exact hW),hce]
  ·rw [if_pos hV] at hce
   (have zz:=aI @g0 (aI @aj (aI @ab (aI @aw (aI @bd (aI @Bool.false_eq_true @hi1))))); repeat' (first | refine zW ?_ | apply a_n | apply a_r | refine zO ?_ | refine vY ?_ | refine cY ?_ (hp:=by first | exact hv | exact hvs | exact ho) | refine alY ?_ | refine stY ?_ | (refine zGY ?_ ?_ <;> (intro _hg; try (exfalso; omega))) | refine ae rfl ?_ | refine r1Y ?_ | fail)) <;> (try clear zz)
   refine bq ?_
   rw [fin (by rw [hce]; exact hV),hce]
end Go.Proofs.YtjgpfclngkcedaaGreat
namespace Go.Proofs.YtjgpfclngkcedaaGreat
open Go Go.Abs
def pd (t:TaskV) (v:List Int):Nat:=(t.cases.map CaseV.inp).findIdx fun x=>decide (x=v)
def ji (l:List (List Int)):Bool:=decide (l.length ≤ 30) && l.all fun v=>decide (v.length ≤ 10)
def p8 (c:CaseV):Bool:=decide (c.inp.length ≤ 10) && ji c.out && ji c.calm
def oo (t:TaskV):Bool:=decide (t.cases.length ≤ 30) && t.cases.all p8
theorem qw {l:List (List Int)} {v:List Int}:v ∈ l ↔ ∃ i,i < l.length∧l.getD i default=v:=by
 constructor
 ·intro h
  obtain ⟨i,hi,e⟩:=List.getElem_of_mem h
  exact ⟨i,hi,by simp [List.getD,hi,e]⟩
 ·rintro ⟨i,hi,rfl⟩
  exact ai hi
theorem gy {t:TaskV} (h:aM t=0):∀ j i,i < j→j < t.cases.length→a8 (t.cases.getD i default).inp (t.cases.getD j default).inp < 0:=by
 intro j i hij hj
 have h2:bB (dX t) t.cases.length=0:=by
  unfold aM at h
  split at h
  ·omega
  ·split at h
   ·omega
   ·exact h
 have:=pF (l:=t.cases.map CaseV.inp) (fun k hk=>by
  rw [List.length_map] at hk
  have h3:=dL h2 k hk
  unfold dX at h3
  split at h3
  ·exact absurd h3 ‹_›
  ·split at h3
   ·omega
   ·simpa using ‹¬ bA (t.cases.map CaseV.inp) k=true›) j i hij (by rw [List.length_map]; exact hj)
 rwa [fm (by omega),fm hj] at this
attribute [local irreducible] aA ag aU aO aE aH ay aJ aQ aZ Go.Abs.Fn aL Go.Abs.Pure ak aB Yl
end Go.Proofs.YtjgpfclngkcedaaGreat
namespace Go.Proofs.YtjgpfclngkcedaaGreat
open Go Go.Abs
theorem wv (t:TaskV) (k:Nat) (hk:k < t.cases.length):dX t k=if aW (t.cases.getD k default).inp t.n t.ins ≠ 0 then aW (t.cases.getD k default).inp t.n t.ins else if (decide (0 < k) && decide (0 ≤ a8 (t.cases.getD (k - 1) default).inp (t.cases.getD k default).inp)) then 14 else bk t.n t.outs (t.cases.getD k default):=by
 unfold dX bA
 rw [fm hk,fm (by omega)]
attribute [local irreducible] aA ag aU aO aE aH ay aJ aQ aZ Go.Abs.Fn aL Go.Abs.Pure ak aB Yl
theorem nz (a b:List Int) (ha:Sh a) (hb:Sh b):Pure Tryz.prog 68 [aN a,aN b] (.int .i64 (a8 a b)):=by
 refine Pure.of_c2 follows AU (Nat.le_of_ble_eq_true rfl) ?_
 simp only [b68,cO,cG,cN,cM,cD,cF,cB,av,aF]
 have ha':a.length ≤ 17592186044416:=ha
 have hb':b.length ≤ 17592186044416:=hb
 (have zz:=and_self; repeat' (first | refine zW ?_ | apply a_n | refine zO ?_ | refine vZ ?_ | fail)) <;> (try clear zz)
 refine ie (X:=Nat) (fun k=>[(0,aN a),(1,aN b),(5,.int .i64 k)]) (fun k=>k ≤ a.length∧k ≤ b.length∧a8 a b=a8 (a.drop k) (b.drop k)) (fun k=>a.length - k) 0 ⟨Nat.zero_le _,Nat.zero_le _,rfl⟩ ag0 ?_
 rintro k ⟨h1,h2,h3⟩
 by_cases hka:k < a.length
 ·by_cases hkb:k < b.length
  ·rw [bT (l:=a) hka,bT (l:=b) hkb,a8] at h3
   by_cases c1:a.getD k default < b.getD k default
   ·rw [if_pos c1] at h3
    rw [h3]
    (have zz:=and_self; repeat' (first | refine zW ?_ | apply a_n | apply a_r | refine zO ?_ | refine vZ ?_ | refine gTZ ?_ | (refine zGZ ?_ ?_ <;> (intro _hg; try (exfalso; omega))) | refine ae rfl ?_ | refine r1Z ?_ | fail)) <;> (try clear zz)
    exact .int _ _
   ·rw [if_neg c1] at h3
    by_cases c2:a.getD k default > b.getD k default
    ·rw [if_pos c2] at h3
     rw [h3]
     (have zz:=and_self; repeat' (first | refine zW ?_ | apply a_n | apply a_r | refine zO ?_ | refine vZ ?_ | refine gTZ ?_ | (refine zGZ ?_ ?_ <;> (intro _hg; try (exfalso; omega))) | refine ae rfl ?_ | refine r1Z ?_ | fail)) <;> (try clear zz)
     exact .int _ _
    ·rw [if_neg c2] at h3
     (have zz:=and_self; repeat' (first | refine zW ?_ | apply a_n | refine zO ?_ | refine vZ ?_ | refine gTZ ?_ | (refine zGZ ?_ ?_ <;> (intro _hg; try (exfalso; omega))) | fail)) <;> (try clear zz)
     exact ⟨k + 1,⟨by omega,by omega,h3⟩,by omega,ag0,rfl,rfl⟩
  ·rw [List.drop_eq_nil_of_le (show b.length ≤ k by omega),bT (l:=a) hka] at h3
   have h3:a8 a b=1:=h3
   rw [h3]
   (have zz:=and_self; repeat' (first | refine zW ?_ | apply a_n | apply a_x | apply a_r | refine zO ?_ | refine vZ ?_ | refine gTZ ?_ | (refine zGZ ?_ ?_ <;> (intro _hg; try (exfalso; omega))) | refine ae rfl ?_ | refine r1Z ?_ | fail)) <;> (try clear zz)
   exact .int _ _
 ·by_cases hkb:k < b.length
  ·rw [List.drop_eq_nil_of_le (show a.length ≤ k by omega),bT (l:=b) hkb] at h3
   have h3:a8 a b=-1:=h3
   rw [h3]
   (have zz:=and_self; repeat' (first | refine zW ?_ | apply a_n | apply a_x | apply a_r | refine zO ?_ | refine vZ ?_ | refine gFZ ?_ | refine cFZ ?_ | (refine zGZ ?_ ?_ <;> (intro _hg; try (exfalso; omega))) | refine ae rfl ?_ | refine r1Z ?_ | fail)) <;> (try clear zz)
   exact .int _ _
  ·rw [List.drop_eq_nil_of_le (show a.length ≤ k by omega),List.drop_eq_nil_of_le (show b.length ≤ k by omega)] at h3
   have h3:a8 a b=0:=h3
   rw [h3]
   (have zz:=and_self; repeat' (first | refine zW ?_ | apply a_n | apply a_x | refine zO ?_ | refine vZ ?_ | refine gFZ ?_ | refine cFZ ?_ | (refine zGZ ?_ ?_ <;> (intro _hg; try (exfalso; omega))) | refine ae rfl ?_ | refine r1Z ?_ | fail)) <;> (try clear zz)
   exact .int _ _
theorem Cf (l:List (List Int)) (v:List Int) (hl:Sh l) (hs:∀ x ∈ l,Sh x) (hv:Sh v):Pure Tryz.prog 105 [ax l,aN v] (.bool (decide (v ∈ l))):=by
 refine Pure.of_c2 follows Bh (Nat.le_of_ble_eq_true rfl) ?_
 simp only [BG,cO,cG,cN,cM,cD,cF,cB,av,aF]
 have hl':l.length ≤ 17592186044416:=hl
 (have zz:=and_self; repeat' (first | refine zW ?_ | apply a_n | refine zO ?_ | refine vZ ?_ | fail)) <;> (try clear zz)
 refine lN (fun k=>[(0,ax l),(1,aN v),(5,.int .i64 k)]) l.length (fun k=>l.getD k default ≠ v) ag0 ?_
 intro k hk hp
 by_cases hk2:k < l.length
 rotate_left
 ·(have zz:=and_self; repeat' (first | refine zW ?_ | apply a_n | apply a_x | refine zO ?_ | refine vZ ?_ | (refine zGZ ?_ ?_ <;> (intro _hg; try (exfalso; omega))) | refine ae rfl ?_ | refine r1Z ?_ | fail)) <;> (try clear zz)
  exact bU (decide_eq_false (fun hm=>by
   obtain ⟨i,hi,e⟩:=qw.1 hm
   exact hp i (by omega) e)).symm
 have hc:=nz (l.getD k default) v (hs _ (ai hk2)) hv
 by_cases he:a8 (l.getD k default) v=0
 ·(have zz:=and_self; repeat' (first | refine zW ?_ | apply a_n | apply a_r | refine zO ?_ | refine vZ ?_ | refine cZ ?_ (hp:=hc) | (refine zGZ ?_ ?_ <;> (intro _hg; try (exfalso; omega))) | refine ae rfl ?_ | refine r1Z ?_ | fail)) <;> (try clear zz)
  exact bU (decide_eq_true (qw.2 ⟨k,hk2,gf he⟩)).symm
 ·(have zz:=and_self; repeat' (first | refine zW ?_ | apply a_n | refine zO ?_ | refine vZ ?_ | refine cZ ?_ (hp:=hc) | (refine zGZ ?_ ?_ <;> (intro _hg; try (exfalso; omega))) | fail)) <;> (try clear zz)
  exact ⟨hk2,fun h=>he (by rw [h]; exact cH v),ag0,rfl,rfl⟩
theorem sY (v:List Int) (n most:Int) (hv:Sh v):Pure Tryz.prog 125 [aN v,.int .i64 n,.int .i64 most] (.int .i64 (aW v n most)):=by
 refine Pure.of_c2 follows Bj (Nat.le_of_ble_eq_true rfl) ?_
 simp only [Bd,cO,cG,cN,cM,cD,cF,cB,av,aF]
 have hv':v.length ≤ 17592186044416:=hv
 by_cases hn:(v.length:Int)=n
 rotate_left
 ·have e:aW v n most=15:=by unfold aW; rw [if_pos hn]
  rw [e]
  (have zz:=and_self; repeat' (first | refine zW ?_ | apply a_n | apply a_r | refine zO ?_ | refine vZ ?_ | (refine zGZ ?_ ?_ <;> (intro _hg; try (exfalso; omega))) | refine ae rfl ?_ | refine r1Z ?_ | fail)) <;> (try clear zz)
  all_goals exact .int _ _
 have e:aW v n most=if v.any (fun x=>decide (x < 0 ∨ most ≤ x)) then 2 else 0:=by unfold aW; rw [if_neg (fun h=>h hn)]
 rw [e]
 subst hn
 (have zz:=and_self; repeat' (first | refine zW ?_ | apply a_n | refine zO ?_ | refine vZ ?_ | (refine zGZ ?_ ?_ <;> (intro _hg; try (exfalso; omega))) | fail)) <;> (try clear zz)
 refine lN (fun k=>[(0,aN v),(1,.int .i64 v.length),(2,.int .i64 most),(7,.int .i64 k)]) v.length (fun k=>decide (v.getD k default < 0 ∨ most ≤ v.getD k default)=false) ag0 ?_
 intro k hk hp
 by_cases hk2:k < v.length
 rotate_left
 ·(have zz:=and_self; repeat' (first | refine zW ?_ | apply a_n | apply a_x | refine zO ?_ | refine vZ ?_ | (refine zGZ ?_ ?_ <;> (intro _hg; try (exfalso; omega))) | refine ae rfl ?_ | refine r1Z ?_ | fail)) <;> (try clear zz)
  rw [tT fun i hi=>hp i (by omega)]
  exact .int _ _
 by_cases hb:v.getD k default < 0 ∨ most ≤ v.getD k default
 ·(have zz:=and_self; repeat' (first | refine zW ?_ | apply a_n | apply a_r | refine zO ?_ | refine vZ ?_ | refine gTZ ?_ | refine gFZ ?_ | refine cTZ ?_ | (refine zGZ ?_ ?_ <;> (intro _hg; try (exfalso; omega))) | refine ae rfl ?_ | refine r1Z ?_ | fail)) <;> (try clear zz)
  all_goals first
   | (rw [vQ (p:=fun x=>decide (x < 0 ∨ most ≤ x)) hk2 (decide_eq_true hb)]; exact .int _ _)
 ·(have zz:=and_self; repeat' (first | refine zW ?_ | apply a_n | refine zO ?_ | refine vZ ?_ | refine gTZ ?_ | (refine zGZ ?_ ?_ <;> (intro _hg; try (exfalso; omega))) | fail)) <;> (try clear zz)
  exact ⟨hk2,decide_eq_false hb,ag0,rfl,rfl⟩
set_option maxHeartbeats 2000000 in
theorem Cb (t:TaskV) (j:Nat) (hs:∀ c ∈ t.cases,ShC c) (hsc:Sh t.cases) (hj:j < t.cases.length):Pure Tryz.prog 82 [bo t,.int .i64 j] (.int .i64 (dX t j)):=by
 refine Pure.of_c2 follows BR (Nat.le_of_ble_eq_true rfl) ?_
 simp only [b82,cO,cG,cN,cM,cD,cF,cB,av,aF]
 rw [wv t j hj]
 have hsc':t.cases.length ≤ 17592186044416:=hsc
 have hm:=ai hj
 obtain ⟨s1,s2,s3,s4,s5⟩:=hs _ hm
 have ix:=bd hj
 have hv:=sY _ t.n t.ins s1
 unfold bo
 by_cases hV:aW (t.cases.getD j default).inp t.n t.ins=0
 rotate_left
 ·rw [if_pos hV]
  generalize aW (t.cases.getD j default).inp t.n t.ins=V at *
  (have zz:=aI @aj (aI @ab (aI @aw @ix)); repeat' (first | refine zW ?_ | apply a_n | apply a_r | refine zO ?_ | refine vZ ?_ | refine cZ ?_ (hp:=hv) | refine alZ ?_ | refine bxZ ?_ | refine stZ ?_ | (refine zGZ ?_ ?_ <;> (intro _hg; try (exfalso; omega))) | refine ae rfl ?_ | refine r1Z ?_ | fail)) <;> (try clear zz)
  exact .int _ _
 rw [if_neg (fun h=>h hV)]
 rw [hV] at hv
 have hO:=nz (t.cases.getD (j - 1) default).inp (t.cases.getD j default).inp (hs _ (ai (by omega))).1 s1
 have hi1:=bd (l:=t.cases) (k:=j - 1) (by omega)
 generalize hC:t.cases.getD j default=c at *
 obtain ⟨inp,out,calm⟩:=c
 dsimp only at *
 have s2':out.length ≤ 17592186044416:=s2
 have s4':calm.length ≤ 17592186044416:=s4
 refine da ?_
 (have zz:=aI @aj (aI @ab (aI @aw @ix)); repeat' (first | apply a_n | refine zO ?_ | refine vZ ?_ | refine bxZ ?_ | fail)) <;> (try clear zz)
 refine da ?_
 (have zz:=aI @aj (aI @ab (aI @aw @ix)); repeat' (first | apply a_n | refine zO ?_ | refine vZ ?_ | refine alZ ?_ | refine stZ ?_ | fail)) <;> (try clear zz)
 refine aS (fun T H nx=>T 1=.int .i64 j∧T 2=.ptr 0 4 0∧T 5=.ptr 1 3 0∧H 0=some [.int .i64 t.n,.int .i64 t.ins,.int .i64 t.outs,aR t.cases]∧H 1=some [aN inp,ax out,ax calm]) ?_ ?_
 ·(have zz:=aI @aj (aI @ab (aI @aw @ix)); repeat' (first | refine zW ?_ | apply a_n | refine zO ?_ | refine vZ ?_ | refine cZ ?_ (hp:=hv) | (refine zGZ ?_ ?_ <;> (intro _hg; try (exfalso; omega))) | fail)) <;> (try clear zz)
  exact ⟨rfl,rfl,rfl,rfl,rfl⟩
 rintro T H nx ⟨t1,t2,t5,g0,g1⟩
 refine aS (fun T H nx=>T 1=.int .i64 j∧T 2=.ptr 0 4 0∧T 5=.ptr 1 3 0∧H 0=some [.int .i64 t.n,.int .i64 t.ins,.int .i64 t.outs,aR t.cases]∧H 1=some [aN inp,ax out,ax calm]∧(decide (0 < j) && decide (0 ≤ a8 (t.cases.getD (j - 1) default).inp inp))=false) ?_ ?_
 ·by_cases hj0:j=0
  ·subst hj0
   (have zz:=aI @t1 (aI @t2 (aI @t5 (aI @g0 (aI @g1 (aI @aj (aI @ab (aI @aw (aI @ix @Bool.false_eq_true)))))))); repeat' (first | refine zW ?_ | refine zM ?_ | apply a_n | refine zO ?_ | refine vZ ?_ | refine gFZ ?_ | (refine zGZ ?_ ?_ <;> (intro _hg; try (exfalso; omega))) | refine cFZ ?_ | fail)) <;> (try clear zz)
   all_goals first | exact ⟨(have zz:=aI @t1 (aI @t2 (aI @t5 (aI @g0 @g1))); evZ),(have zz:=aI @t1 (aI @t2 (aI @t5 (aI @g0 @g1))); evZ),(have zz:=aI @t1 (aI @t2 (aI @t5 (aI @g0 @g1))); evZ),(have zz:=aI @t1 (aI @t2 (aI @t5 (aI @g0 @g1))); evZ),(have zz:=aI @t1 (aI @t2 (aI @t5 (aI @g0 @g1))); evZ),by first | rfl | simp⟩ | trace_state
  ·have e1:(j:Int) - 1=((j - 1:Nat):Int):=by omega
   rw [← e1] at hi1
   rw [decide_eq_true (show 0 < j by omega),Bool.true_and]
   have hj1:decide ((0:Int) < (j:Int))=true:=decide_eq_true (by omega)
   by_cases ho:0 ≤ a8 (t.cases.getD (j - 1) default).inp inp
   ·rw [decide_eq_true ho,if_pos rfl]
    (have zz:=aI @t1 (aI @t2 (aI @t5 (aI @g0 (aI @g1 (aI @aj (aI @ab (aI @aw (aI @ix (aI @hi1 (aI @hj1 @Bool.false_eq_true)))))))))); repeat' (first | refine zW ?_ | refine zM ?_ | apply a_n | apply a_r | refine zO ?_ | refine vZ ?_ | refine cZ ?_ (hp:=hO) | refine gTZ ?_ | (refine zGZ ?_ ?_ <;> (intro _hg; try (exfalso; omega))) | refine ae rfl ?_ | refine r1Z ?_ | fail)) <;> (try clear zz)
    all_goals first | exact .int _ _ | trace_state
   ·rw [decide_eq_false ho]
    (have zz:=aI @t1 (aI @t2 (aI @t5 (aI @g0 (aI @g1 (aI @aj (aI @ab (aI @aw (aI @ix (aI @hi1 (aI @hj1 @Bool.false_eq_true)))))))))); repeat' (first | refine zW ?_ | refine zM ?_ | apply a_n | refine zO ?_ | refine vZ ?_ | refine cZ ?_ (hp:=hO) | refine gTZ ?_ | (refine zGZ ?_ ?_ <;> (intro _hg; try (exfalso; omega))) | fail)) <;> (try clear zz)
    all_goals first | exact ⟨(have zz:=aI @t1 (aI @t2 (aI @t5 (aI @g0 @g1))); evZ),(have zz:=aI @t1 (aI @t2 (aI @t5 (aI @g0 @g1))); evZ),(have zz:=aI @t1 (aI @t2 (aI @t5 (aI @g0 @g1))); evZ),(have zz:=aI @t1 (aI @t2 (aI @t5 (aI @g0 @g1))); evZ),(have zz:=aI @t1 (aI @t2 (aI @t5 (aI @g0 @g1))); evZ),by first | rfl | simp⟩ | trace_state
 clear t1 t2 t5 g0 g1 hO hi1
 rintro T H nx ⟨t1,t2,t5,g0,g1,hu⟩
 rw [hu,if_neg (by simp)]
 by_cases h0:out.length < 1 ∨ 1024 < out.length
 ·have e:bk t.n t.outs ⟨inp,out,calm⟩=5:=by unfold bk; rw [if_pos h0]
  rw [e]
  (have zz:=aI @t1 (aI @t2 (aI @t5 (aI @g0 @g1))); repeat' (first | refine zW ?_ | apply a_n | apply a_r | refine zO ?_ | refine vZ ?_ | refine gTZ ?_ | refine gFZ ?_ | refine cTZ ?_ | (refine zGZ ?_ ?_ <;> (intro _hg; try (exfalso; omega))) | refine ae rfl ?_ | refine r1Z ?_ | fail)) <;> (try clear zz)
  all_goals exact .int _ _
 have e:bk t.n t.outs ⟨inp,out,calm⟩=if bB (gd t.n t.outs out) out.length ≠ 0 then bB (gd t.n t.outs out) out.length else bB (fx out calm) calm.length:=by unfold bk; rw [if_neg h0]
 rw [e]
 refine aS (fun T H nx=>T 2=.ptr 0 4 0∧T 5=.ptr 1 3 0∧H 0=some [.int .i64 t.n,.int .i64 t.ins,.int .i64 t.outs,aR t.cases]∧H 1=some [aN inp,ax out,ax calm]) ?_ ?_
 ·(have zz:=aI @t1 (aI @t2 (aI @t5 (aI @g0 @g1))); repeat' (first | refine zW ?_ | apply a_n | refine zO ?_ | refine vZ ?_ | refine gTZ ?_ | (refine zGZ ?_ ?_ <;> (intro _hg; try (exfalso; omega))) | fail)) <;> (try clear zz)
  all_goals first | exact ⟨(have zz:=aI @t1 (aI @t2 (aI @t5 (aI @g0 @g1))); evZ),(have zz:=aI @t1 (aI @t2 (aI @t5 (aI @g0 @g1))); evZ),(have zz:=aI @t1 (aI @t2 (aI @t5 (aI @g0 @g1))); evZ),(have zz:=aI @t1 (aI @t2 (aI @t5 (aI @g0 @g1))); evZ)⟩ | trace_state
 clear t1 t2 t5 g0 g1
 rintro T H nx ⟨t2,t5,g0,g1⟩
 refine aS (fun T H nx=>T 2=.ptr 0 4 0∧T 5=.ptr 1 3 0∧H 0=some [.int .i64 t.n,.int .i64 t.ins,.int .i64 t.outs,aR t.cases]∧H 1=some [aN inp,ax out,ax calm]∧∀ i,i < out.length→gd t.n t.outs out i=0) ?_ ?_
 ·(have zz:=aI @t2 (aI @t5 (aI @g0 @g1)); repeat' (first | refine zW ?_ | apply a_n | refine zO ?_ | refine vZ ?_ | fail)) <;> (try clear zz)
  refine lN (fun k=>[(2,.ptr 0 4 0),(5,.ptr 1 3 0),(7,.int .i64 k)]) out.length (fun k=>gd t.n t.outs out k=0) (have zz:=aI @t2 @t5; agZ) ?_
  intro k hk hz
  by_cases hk2:k < out.length
  rotate_left
  ·(have zz:=aI @g0 @g1; repeat' (first | refine zW ?_ | apply a_n | apply a_x | refine zO ?_ | refine vZ ?_ | (refine zGZ ?_ ?_ <;> (intro _hg; try (exfalso; omega))) | fail)) <;> (try clear zz)
   exact ⟨rfl,rfl,g0,g1,fun i hi=>hz i (by omega)⟩
  have hvk:=sY (out.getD k default) t.n t.outs (s3 _ (ai hk2))
  have hok:=nz (out.getD (k - 1) default) (out.getD k default) (s3 _ (ai (by omega))) (s3 _ (ai hk2))
  have ho:gd t.n t.outs out k=if aW (out.getD k default) t.n t.outs ≠ 0 then aW (out.getD k default) t.n t.outs else if (decide (0 < k) && decide (0 ≤ a8 (out.getD (k - 1) default) (out.getD k default))) then 14 else 0:=rfl
  have fin:∀ r,gd t.n t.outs out k=r→r ≠ 0→(if bB (gd t.n t.outs out) out.length ≠ 0 then bB (gd t.n t.outs out) out.length else bB (fx out calm) calm.length)=r:=fun r hr h0=>by
   rw [cw hk2 hz (by rw [hr]; exact h0),hr,if_pos h0]
  generalize aW (out.getD k default) t.n t.outs=V at *
  by_cases hV0:V=0
  rotate_left
  ·rw [if_pos hV0] at ho
   rw [fin V ho hV0]
   (have zz:=aI @g0 @g1; repeat' (first | refine zW ?_ | refine zM ?_ | apply a_n | apply a_r | refine zO ?_ | refine vZ ?_ | refine cZ ?_ (hp:=hvk) | (refine zGZ ?_ ?_ <;> (intro _hg; try (exfalso; omega))) | refine ae rfl ?_ | refine r1Z ?_ | fail)) <;> (try clear zz)
   exact .int _ _
  subst hV0
  rw [if_neg (fun h=>h rfl)] at ho
  by_cases hk0:k=0
  ·subst hk0
   (have zz:=aI @g0 (aI @g1 @Bool.false_eq_true); repeat' (first | refine zW ?_ | refine zM ?_ | apply a_n | refine zO ?_ | refine vZ ?_ | refine cZ ?_ (hp:=hvk) | refine gFZ ?_ | refine cFZ ?_ | (refine zGZ ?_ ?_ <;> (intro _hg; try (exfalso; omega))) | fail)) <;> (try clear zz)
   all_goals first | exact ⟨hk2,ho,ag0,rfl,rfl⟩ | trace_state
  ·have e1:(k:Int) - 1=((k - 1:Nat):Int):=by omega
   have e2:((k:Int) - 1).toNat=k - 1:=by omega
   have hj1:decide ((0:Int) < (k:Int))=true:=decide_eq_true (by omega)
   rw [decide_eq_true (show 0 < k by omega),Bool.true_and] at ho
   generalize a8 (out.getD (k - 1) default) (out.getD k default)=O at *
   by_cases hO0:0 ≤ O
   ·rw [decide_eq_true hO0,if_pos rfl] at ho
    rw [fin 14 ho (by decide)]
    (have zz:=aI @g0 (aI @g1 (aI @hj1 (aI @e2 @Bool.false_eq_true))); repeat' (first | refine zW ?_ | refine zM ?_ | apply a_n | apply a_r | refine zO ?_ | refine vZ ?_ | refine cZ ?_ (hp:=by first | exact hvk | exact hok) | refine gTZ ?_ | (refine zGZ ?_ ?_ <;> (intro _hg; try (exfalso; omega))) | refine ae rfl ?_ | refine r1Z ?_ | fail)) <;> (try clear zz)
    all_goals first | exact .int _ _ | trace_state
   ·rw [decide_eq_false hO0,if_neg (by simp)] at ho
    (have zz:=aI @g0 (aI @g1 (aI @hj1 (aI @e2 @Bool.false_eq_true))); repeat' (first | refine zW ?_ | refine zM ?_ | apply a_n | refine zO ?_ | refine vZ ?_ | refine cZ ?_ (hp:=by first | exact hvk | exact hok) | refine gTZ ?_ | (refine zGZ ?_ ?_ <;> (intro _hg; try (exfalso; omega))) | fail)) <;> (try clear zz)
    all_goals first | exact ⟨hk2,ho,ag0,rfl,rfl⟩ | trace_state
 clear t2 t5 g0 g1
 rintro T H nx ⟨t2,t5,g0,g1,hz0⟩
 rw [bM hz0,if_neg (fun h=>h rfl)]
 (have zz:=aI @t2 (aI @t5 (aI @g0 @g1)); repeat' (first | refine zW ?_ | apply a_n | refine zO ?_ | refine vZ ?_ | fail)) <;> (try clear zz)
 refine lN (fun k=>[(2,.ptr 0 4 0),(5,.ptr 1 3 0),(9,.int .i64 k)]) calm.length (fun k=>fx out calm k=0) (have zz:=aI @t2 @t5; agZ) ?_
 intro k hk hz
 by_cases hk2:k < calm.length
 rotate_left
 ·(have zz:=aI @g0 @g1; repeat' (first | refine zW ?_ | apply a_n | apply a_x | refine zO ?_ | refine vZ ?_ | (refine zGZ ?_ ?_ <;> (intro _hg; try (exfalso; omega))) | refine ae rfl ?_ | refine r1Z ?_ | fail)) <;> (try clear zz)
  rw [bM fun i hi=>hz i (by omega)]
  exact .int _ _
 have hh:=Cf out (calm.getD k default) s2 s3 (s5 _ (ai hk2))
 have hok:=nz (calm.getD (k - 1) default) (calm.getD k default) (s5 _ (ai (by omega))) (s5 _ (ai hk2))
 have ho:fx out calm k=if calm.getD k default ∈ out then (if (decide (0 < k) && decide (0 ≤ a8 (calm.getD (k - 1) default) (calm.getD k default))) then 14 else 0) else 6:=rfl
 have fin:∀ r,fx out calm k=r→r ≠ 0→bB (fx out calm) calm.length=r:=fun r hr h0=>by
  rw [cw hk2 hz (by rw [hr]; exact h0),hr]
 by_cases hm2:calm.getD k default ∈ out
 rotate_left
 ·rw [if_neg hm2] at ho
  rw [decide_eq_false hm2] at hh
  rw [fin 6 ho (by decide)]
  (have zz:=aI @g0 (aI @g1 @Bool.false_eq_true); repeat' (first | refine zW ?_ | refine zM ?_ | apply a_n | apply a_r | refine zO ?_ | refine vZ ?_ | refine cZ ?_ (hp:=hh) | refine cTZ ?_ | (refine zGZ ?_ ?_ <;> (intro _hg; try (exfalso; omega))) | refine ae rfl ?_ | refine r1Z ?_ | fail)) <;> (try clear zz)
  exact .int _ _
 rw [if_pos hm2] at ho
 rw [decide_eq_true hm2] at hh
 by_cases hk0:k=0
 ·subst hk0
  (have zz:=aI @g0 (aI @g1 @Bool.false_eq_true); repeat' (first | refine zW ?_ | refine zM ?_ | apply a_n | refine zO ?_ | refine vZ ?_ | refine cZ ?_ (hp:=hh) | refine gFZ ?_ | refine cFZ ?_ | (refine zGZ ?_ ?_ <;> (intro _hg; try (exfalso; omega))) | fail)) <;> (try clear zz)
  all_goals first | exact ⟨hk2,ho,ag0,rfl,rfl⟩ | trace_state
 ·have e2:((k:Int) - 1).toNat=k - 1:=by omega
  have hj1:decide ((0:Int) < (k:Int))=true:=decide_eq_true (by omega)
  rw [decide_eq_true (show 0 < k by omega),Bool.true_and] at ho
  generalize a8 (calm.getD (k - 1) default) (calm.getD k default)=O at *
  by_cases hO0:0 ≤ O
  ·rw [decide_eq_true hO0,if_pos rfl] at ho
   rw [fin 14 ho (by decide)]
   (have zz:=aI @g0 (aI @g1 (aI @hj1 (aI @e2 @Bool.false_eq_true))); repeat' (first | refine zW ?_ | refine zM ?_ | apply a_n | apply a_r | refine zO ?_ | refine vZ ?_ | refine cZ ?_ (hp:=by first | exact hh | exact hok) | refine gTZ ?_ | refine cFZ ?_ | (refine zGZ ?_ ?_ <;> (intro _hg; try (exfalso; omega))) | refine ae rfl ?_ | refine r1Z ?_ | fail)) <;> (try clear zz)
   all_goals first | exact .int _ _ | trace_state
  ·rw [decide_eq_false hO0,if_neg (by simp)] at ho
   (have zz:=aI @g0 (aI @g1 (aI @hj1 (aI @e2 @Bool.false_eq_true))); repeat' (first | refine zW ?_ | refine zM ?_ | apply a_n | refine zO ?_ | refine vZ ?_ | refine cZ ?_ (hp:=by first | exact hh | exact hok) | refine gTZ ?_ | refine cFZ ?_ | (refine zGZ ?_ ?_ <;> (intro _hg; try (exfalso; omega))) | fail)) <;> (try clear zz)
   all_goals first | exact ⟨hk2,ho,ag0,rfl,rfl⟩ | trace_state
end Go.Proofs.YtjgpfclngkcedaaGreat
namespace Go.Proofs.YtjgpfclngkcedaaGreat
open Go Go.Abs
open Nat (reduceEqDiff reduceAdd reduceLeDiff)
theorem xx {t:TaskV} (h:oo t=true):Sh t.cases∧∀ c ∈ t.cases,ShC c:=by
 unfold oo at h
 rw [Bool.and_eq_true,decide_eq_true_iff,List.all_eq_true] at h
 obtain ⟨h1,h2⟩:=h
 refine ⟨show _ ≤ _ by omega,fun c hc=>?_⟩
 have hf:=h2 c hc
 unfold p8 ji at hf
 simp only [Bool.and_eq_true,decide_eq_true_iff,List.all_eq_true] at hf
 obtain ⟨⟨f1,f2,f3⟩,f4,f5⟩:=hf
 refine ⟨show _ ≤ _ by omega,show _ ≤ _ by omega,fun x hx=>?_,show _ ≤ _ by omega,fun x hx=>?_⟩
 ·have:=f3 x hx; exact show _ ≤ _ by omega
 ·have:=f5 x hx; exact show _ ≤ _ by omega
attribute [local irreducible] aA ag aU aO aE aH ay aJ aQ aZ Go.Abs.Fn aL Go.Abs.Pure ak aB Yl
theorem rT (t:TaskV) (hs:∀ c ∈ t.cases,ShC c) (hsc:Sh t.cases):Pure Tryz.prog 29 [bo t] (.int .i64 (aM t)):=by
 refine Pure.of_c2 follows Cd (Nat.le_of_ble_eq_true rfl) ?_
 simp only [b29,cO,cG,cN,cM,cD,cF,cB,av,aF]
 have hsc':t.cases.length ≤ 17592186044416:=hsc
 have d2:=bJ t
 have hone:=fun j hj=>Cb t j hs hsc hj
 unfold bo at d2 hone ⊢
 by_cases h0:t.n < 1 ∨ 5 < t.n ∨ t.ins < 1 ∨ 8 < t.ins ∨ t.outs < 1 ∨ 8 < t.outs
 ·have e:aM t=2:=by unfold aM; rw [if_pos h0]
  rw [e]
  (have zz:=aI @aj (aI @ab @aw); repeat' (first | refine zW ?_ | apply a_n | apply a_r | refine zO ?_ | refine vZ ?_ | refine bxZ ?_ | refine gTZ ?_ | refine gFZ ?_ | refine cTZ ?_ | (refine zGZ ?_ ?_ <;> (intro _hg; try (exfalso; omega))) | refine ae rfl ?_ | refine r1Z ?_ | fail)) <;> (try clear zz)
  all_goals exact .int _ _
 by_cases h1:t.cases.length < 1 ∨ 1024 < t.cases.length
 ·have e:aM t=5:=by unfold aM; rw [if_neg h0,if_pos h1]
  rw [e]
  (have zz:=aI @aj (aI @ab @aw); repeat' (first | refine zW ?_ | apply a_n | apply a_r | refine zO ?_ | refine vZ ?_ | refine bxZ ?_ | refine gTZ ?_ | refine gFZ ?_ | refine cTZ ?_ | (refine zGZ ?_ ?_ <;> (intro _hg; try (exfalso; omega))) | refine ae rfl ?_ | refine r1Z ?_ | fail)) <;> (try clear zz)
  all_goals exact .int _ _
 have e:aM t=bB (dX t) t.cases.length:=by unfold aM; rw [if_neg h0,if_neg h1]
 rw [e]
 (have zz:=aI @aj (aI @ab @aw); repeat' (first | refine zW ?_ | apply a_n | refine zO ?_ | refine vZ ?_ | refine bxZ ?_ | refine gTZ ?_ | (refine zGZ ?_ ?_ <;> (intro _hg; try (exfalso; omega))) | fail)) <;> (try clear zz)
 refine lN (fun k=>[(1,.ptr 0 4 0),(3,.int .i64 k)]) t.cases.length (fun k=>dX t k=0) (by simp (disch:=omega) only [agr,ZG,reduceEqDiff,↓reduceIte,List.length_cons,List.length_nil]) ?_
 intro k hk hz
 by_cases hk2:k < t.cases.length
 rotate_left
 ·(have zz:=aI @aj (aI @ab @aw); repeat' (first | refine zW ?_ | apply a_n | apply a_x | refine zO ?_ | refine vZ ?_ | (refine zGZ ?_ ?_ <;> (intro _hg; try (exfalso; omega))) | refine ae rfl ?_ | refine r1Z ?_ | fail)) <;> (try clear zz)
  rw [bM fun i hi=>hz i (by omega)]
  exact .int _ _
 have hc:=hone k hk2
 by_cases hE:dX t k=0
 ·rw [hE] at hc
  (have zz:=aI @aj (aI @ab @aw); repeat' (first | refine zW ?_ | apply a_n | refine zO ?_ | refine vZ ?_ | refine cZ ?_ (hp:=hc) | (refine zGZ ?_ ?_ <;> (intro _hg; try (exfalso; omega))) | fail)) <;> (try clear zz)
  exact ⟨hk2,hE,ag0,rfl,rfl⟩
 ·rw [cw hk2 hz hE]
  generalize dX t k=V at *
  (have zz:=aI @aj (aI @ab @aw); repeat' (first | refine zW ?_ | apply a_n | apply a_r | refine zO ?_ | refine vZ ?_ | refine cZ ?_ (hp:=hc) | (refine zGZ ?_ ?_ <;> (intro _hg; try (exfalso; omega))) | refine ae rfl ?_ | refine r1Z ?_ | fail)) <;> (try clear zz)
  exact .int _ _
theorem vE (l:List (List Int)) (hl:Sh l) (hs:∀ x ∈ l,Sh x):Pure Tryz.prog 99 [ax l,.int .i64 30] (.bool (ji l)):=by
 refine Pure.of_c2 follows Cc (Nat.le_of_ble_eq_true rfl) ?_
 simp only [b99,cO,cG,cN,cM,cD,cF,cB,av,aF]
 have hl':l.length ≤ 17592186044416:=hl
 unfold ji
 by_cases h0:l.length ≤ 30
 rotate_left
 ·rw [decide_eq_false h0]
  (have zz:=and_self; repeat' (first | refine zW ?_ | apply a_n | apply a_r | refine zO ?_ | refine vZ ?_ | (refine zGZ ?_ ?_ <;> (intro _hg; try (exfalso; omega))) | refine ae rfl ?_ | refine r1Z ?_ | fail)) <;> (try clear zz)
  exact .bool _
 rw [decide_eq_true h0,Bool.true_and]
 (have zz:=and_self; repeat' (first | refine zW ?_ | apply a_n | refine zO ?_ | refine vZ ?_ | (refine zGZ ?_ ?_ <;> (intro _hg; try (exfalso; omega))) | fail)) <;> (try clear zz)
 refine lN (fun k=>[(0,ax l),(5,.int .i64 k)]) l.length (fun k=>decide ((l.getD k default).length ≤ 10)=true) ag0 ?_
 intro k hk hz
 by_cases hk2:k < l.length
 rotate_left
 ·(have zz:=and_self; repeat' (first | refine zW ?_ | apply a_n | apply a_x | refine zO ?_ | refine vZ ?_ | (refine zGZ ?_ ?_ <;> (intro _hg; try (exfalso; omega))) | refine ae rfl ?_ | refine r1Z ?_ | fail)) <;> (try clear zz)
  rw [ng fun i hi=>hz i (by omega)]
  exact .bool _
 have hsk:(l.getD k default).length ≤ 17592186044416:=hs _ (ai hk2)
 by_cases hE:(l.getD k default).length ≤ 10
 ·(have zz:=and_self; repeat' (first | refine zW ?_ | apply a_n | refine zO ?_ | refine vZ ?_ | (refine zGZ ?_ ?_ <;> (intro _hg; try (exfalso; omega))) | fail)) <;> (try clear zz)
  exact ⟨hk2,decide_eq_true hE,ag0,rfl,rfl⟩
 ·(have zz:=and_self; repeat' (first | refine zW ?_ | apply a_n | apply a_r | refine zO ?_ | refine vZ ?_ | (refine zGZ ?_ ?_ <;> (intro _hg; try (exfalso; omega))) | refine ae rfl ?_ | refine r1Z ?_ | fail)) <;> (try clear zz)
  rw [iZ (p:=fun v=>decide (v.length ≤ 10)) hk2 (decide_eq_false hE)]
  exact .bool _
theorem B9 (t:TaskV) (hs:∀ c ∈ t.cases,ShC c) (hsc:Sh t.cases):Pure Tryz.prog 38 [bo t] (.bool (oo t)):=by
 refine Pure.of_c2 follows B3 (Nat.le_of_ble_eq_true rfl) ?_
 simp only [b38,cO,cG,cN,cM,cD,cF,cB,av,aF]
 have hsc':t.cases.length ≤ 17592186044416:=hsc
 unfold oo bo
 by_cases h0:t.cases.length ≤ 30
 rotate_left
 ·rw [decide_eq_false h0]
  (have zz:=aI @aj (aI @ab @aw); repeat' (first | refine zW ?_ | apply a_n | apply a_r | refine zO ?_ | refine vZ ?_ | refine bxZ ?_ | (refine zGZ ?_ ?_ <;> (intro _hg; try (exfalso; omega))) | refine ae rfl ?_ | refine r1Z ?_ | fail)) <;> (try clear zz)
  exact .bool _
 rw [decide_eq_true h0,Bool.true_and]
 (have zz:=aI @aj (aI @ab @aw); repeat' (first | refine zW ?_ | apply a_n | refine zO ?_ | refine vZ ?_ | refine bxZ ?_ | (refine zGZ ?_ ?_ <;> (intro _hg; try (exfalso; omega))) | fail)) <;> (try clear zz)
 refine be (X:=Nat) (fun k=>[(1,.ptr 0 4 0),(3,.int .i64 k)]) (fun k H nx=>k ≤ t.cases.length∧(∀ i,i < k→p8 (t.cases.getD i default)=true)∧1 ≤ nx∧H 0=some [.int .i64 t.n,.int .i64 t.ins,.int .i64 t.outs,aR t.cases]) (fun k=>t.cases.length - k) 0 ⟨Nat.zero_le _,fun i h=>absurd h (by omega),Nat.le_refl _,rfl⟩ (by simp (disch:=omega) only [agr,ZG,reduceEqDiff,↓reduceIte,List.length_cons,List.length_nil]) ?_
 rintro k H nx ⟨hk,hz,hn,g0⟩
 by_cases hk2:k < t.cases.length
 rotate_left
 ·(have zz:=aI @g0 (aI @aj (aI @ab @aw)); repeat' (first | refine zW ?_ | apply a_n | apply a_x | refine zO ?_ | refine vY ?_ | (refine zGY ?_ ?_ <;> (intro _hg; try (exfalso; omega))) | refine ae rfl ?_ | refine r1Y ?_ | fail)) <;> (try clear zz)
  rw [ng fun i hi=>hz i (by omega)]
  exact .bool _
 have ix:=bd hk2
 obtain ⟨s1,s2,s3,s4,s5⟩:=hs _ (ai hk2)
 have hf1:=vE _ s2 s3
 have hf2:=vE _ s4 s5
 have hF:p8 (t.cases.getD k default)=(decide ((t.cases.getD k default).inp.length ≤ 10) && ji (t.cases.getD k default).out && ji (t.cases.getD k default).calm):=rfl
 have hno:p8 (t.cases.getD k default)=false→Snap H (.bool false) (.bool (t.cases.all p8)):=fun h=>by
  rw [iZ hk2 h]; exact .bool _
 have hno':∀ {H'},p8 (t.cases.getD k default)=false→Snap H' (.bool false) (.bool (t.cases.all p8)):=fun h=>by
  rw [iZ hk2 h]; exact .bool _
 have s1':(t.cases.getD k default).inp.length ≤ 17592186044416:=s1
 generalize ji (t.cases.getD k default).out=F1 at *
 generalize ji (t.cases.getD k default).calm=F2 at *
 by_cases hl:(t.cases.getD k default).inp.length ≤ 10
 rotate_left
 ·rw [decide_eq_false hl] at hF
  (have zz:=aI @g0 (aI @aj (aI @ab (aI @aw @ix))); repeat' (first | refine zW ?_ | apply a_n | apply a_r | refine zO ?_ | refine vY ?_ | refine alY ?_ | refine stY ?_ | refine gFY ?_ | refine cTY ?_ | (refine zGY ?_ ?_ <;> (intro _hg; try (exfalso; omega))) | refine ae rfl ?_ | refine r1Y ?_ | fail)) <;> (try clear zz)
  all_goals exact hno' hF
 rw [decide_eq_true hl,Bool.true_and] at hF
 cases F1 with
 | false =>
  (have zz:=aI @g0 (aI @aj (aI @ab (aI @aw (aI @ix @Bool.false_eq_true)))); repeat' (first | refine zW ?_ | apply a_n | apply a_r | refine zO ?_ | refine vY ?_ | refine cY ?_ (hp:=by first | exact hf1 | exact hf2) | refine alY ?_ | refine stY ?_ | refine gTY ?_ | refine gFY ?_ | refine cTY ?_ | (refine zGY ?_ ?_ <;> (intro _hg; try (exfalso; omega))) | refine ae rfl ?_ | refine r1Y ?_ | fail)) <;> (try clear zz)
  all_goals exact hno' hF
 | true =>
  cases F2 with
  | false =>
   (have zz:=aI @g0 (aI @aj (aI @ab (aI @aw (aI @ix @Bool.false_eq_true)))); repeat' (first | refine zW ?_ | apply a_n | apply a_r | refine zO ?_ | refine vY ?_ | refine cY ?_ (hp:=by first | exact hf1 | exact hf2) | refine alY ?_ | refine stY ?_ | refine gTY ?_ | refine cTY ?_ | (refine zGY ?_ ?_ <;> (intro _hg; try (exfalso; omega))) | refine ae rfl ?_ | refine r1Y ?_ | fail)) <;> (try clear zz)
   all_goals exact hno' hF
  | true =>
   (have zz:=aI @g0 (aI @aj (aI @ab (aI @aw (aI @ix @Bool.false_eq_true)))); repeat' (first | refine zW ?_ | apply a_n | refine zO ?_ | refine vY ?_ | refine cY ?_ (hp:=by first | exact hf1 | exact hf2) | refine alY ?_ | refine stY ?_ | refine gTY ?_ | refine cFY ?_ | (refine zGY ?_ ?_ <;> (intro _hg; try (exfalso; omega))) | fail)) <;> (try clear zz)
   refine ⟨k + 1,by omega,⟨by omega,fun i hi=>?_,by omega,?_⟩,ag0⟩
   ·rcases Nat.lt_succ_iff_lt_or_eq.1 hi with h | rfl
    ·exact hz i h
    ·exact hF
   ·rw [ac (by omega),ac (by omega),g0]
end Go.Proofs.YtjgpfclngkcedaaGreat
namespace Go.Proofs.YtjgpfclngkcedaaGreat
open Go Go.Abs
def swp {α:Type} [Inhabited α] (L:List α) (i j:Nat):List α:=(L.set i (L.getD j default)).set j (L.getD i default)
structure PermR {α:Type} [Inhabited α] (a b:Nat) (L L':List α):Prop where
 len:L'.length=L.length
 out:∀ i,i < a ∨ b ≤ i→L'.getD i default=L.getD i default
 perm:L'.Perm L
section
variable {α:Type} [Inhabited α] {a b a' b':Nat} {L L' L'':List α}
theorem ck {l:List α} {i j:Nat} {x:α} (h:i < l.length):(l.set i x).getD j default=if i=j then x else l.getD j default:=by
 simp only [List.getD,List.getElem?_set]
 split
 ·rename_i e; subst e; simp [h]
 ·rfl
theorem tg (i j:Nat):(swp L i j).length=L.length:=by simp [swp]
theorem cf {i j:Nat} (hi:i < L.length) (hj:j < L.length) (k:Nat):(swp L i j).getD k default=if k=j then L.getD i default else if k=i then L.getD j default else L.getD k default:=by
 unfold swp
 rw [ck (by simpa using hj),ck hi]
 by_cases e:k=j
 ·subst e; simp
 ·rw [if_neg (fun h=>e h.symm),if_neg e]
  by_cases e2:k=i
  ·subst e2; simp
  ·rw [if_neg (fun h=>e2 h.symm),if_neg e2]
theorem vw {i j:Nat} (hi:i < L.length) (hj:j < L.length):(swp L i j).Perm L:=by
 unfold swp
 have e1:L.getD i default=L[i]:=by simp [List.getD,hi]
 have e2:L.getD j default=L[j]:=by simp [List.getD,hj]
 rw [e1,e2]
 exact List.set_set_perm hi hj
theorem PermR.refl:PermR a b L L:=⟨rfl,fun _ _=>rfl,List.Perm.refl _⟩
theorem PermR.trans (h:PermR a b L L') (k:PermR a b L' L''):PermR a b L L'':=⟨k.len.trans h.len,fun i hi=>(k.out i hi).trans (h.out i hi),k.perm.trans h.perm⟩
theorem PermR.mono (h:PermR a' b' L L') (h1:a ≤ a') (h2:b' ≤ b):PermR a b L L':=⟨h.len,fun i hi=>h.out i (by omega),h.perm⟩
theorem PermR.swap {i j:Nat} (h1:a ≤ i∧i < b) (h2:a ≤ j∧j < b) (hb:b ≤ L.length):PermR a b L (swp L i j) :=
 ⟨tg i j,fun k hk=>by rw [cf (by omega) (by omega),if_neg (by omega),if_neg (by omega)],vw (by omega) (by omega)⟩
theorem qH {l m:List α} (hl:l.length=m.length) (h:∀ i,i < l.length→l.getD i default=m.getD i default):l=m :=
 List.ext_getElem hl (fun i h1 h2=>by
  have:=h i h1
  simpa [List.getD,h1,h2] using this)
theorem PermR.mid (h:PermR a b L L') (hab:a ≤ b) (hb:b ≤ L.length):((L'.drop a).take (b - a)).Perm ((L.drop a).take (b - a)):=by
 have e1:∀ M:List α,b ≤ M.length→M=M.take a ++ ((M.drop a).take (b - a) ++ M.drop b):=fun M hM=>by
  have:M.drop b=(M.drop a).drop (b - a):=by rw [List.drop_drop]; congr 1; omega
  rw [this,List.take_append_drop,List.take_append_drop]
 have t:L'.take a=L.take a:=qH (by simp [h.len]) (fun i hi=>by
  have hi':i < a:=by simp at hi; omega
  rw [iL hi',iL hi']; exact h.out i (.inl hi'))
 have d:L'.drop b=L.drop b:=qH (by simp [h.len]) (fun i hi=>by
  have e:∀ M:List α,(M.drop b).getD i default=M.getD (b + i) default:=fun M=>by simp [List.getD,List.getElem?_drop]
  rw [e,e]; exact h.out (b + i) (.inr (by omega)))
 have p:=h.perm
 rw [e1 L' (by rw [h.len]; exact hb),e1 L hb,t,d] at p
 exact (List.perm_append_right_iff _).1 ((List.perm_append_left_iff _).1 p)
theorem tv {M:List α} {x:α} (hab:a ≤ b) (hb:b ≤ M.length):x ∈ (M.drop a).take (b - a) ↔ ∃ i,a ≤ i∧i < b∧M.getD i default=x:=by
 constructor
 ·intro h
  obtain ⟨j,hj,e⟩:=List.getElem_of_mem h
  have hj':j < b - a:=by simp at hj; omega
  refine ⟨a + j,by omega,by omega,?_⟩
  rw [← e]
  simp [List.getD,List.getElem_take,List.getElem_drop,show a + j < M.length by omega]
 ·rintro ⟨i,h1,h2,rfl⟩
  rw [List.mem_iff_getElem?]
  refine ⟨i - a,?_⟩
  rw [List.getElem?_take,if_pos (by omega),List.getElem?_drop,show a + (i - a)=i by omega]
  simp [List.getD,show i < M.length by omega]
theorem PermR.all {p:α→Prop} (h:PermR a b L L') (hab:a ≤ b) (hb:b ≤ L.length) (hp:∀ i,a ≤ i→i < b→p (L.getD i default)):∀ i,a ≤ i→i < b→p (L'.getD i default):=by
 intro i h1 h2
 have hm:L'.getD i default ∈ (L'.drop a).take (b - a):=(tv hab (by rw [h.len]; exact hb)).2 ⟨i,h1,h2,rfl⟩
 obtain ⟨j,k1,k2,e⟩:=(tv hab hb).1 ((h.mid hab hb).mem_iff.1 hm)
 rw [← e]; exact hp j k1 k2
end
structure Ord {α:Type} (K:α→α→Int):Prop where
 irr:∀ x,¬ K x x < 0
 asym:∀ x y,K x y < 0→¬ K y x < 0
 negtr:∀ x y z,¬ K y x < 0→¬ K z y < 0→¬ K z x < 0
def aP {α:Type} [Inhabited α] (K:α→α→Int) (a b:Nat) (L:List α):Prop:=∀ i j,a ≤ i→i < j→j < b→¬ K (L.getD j default) (L.getD i default) < 0
theorem aP.one {α:Type} [Inhabited α] {K:α→α→Int} {a b:Nat} {L:List α} (h:b ≤ a + 1):aP K a b L:=fun i j h1 h2 h3=>by omega
end Go.Proofs.YtjgpfclngkcedaaGreat
namespace Go.Proofs.YtjgpfclngkcedaaGreat
open Go Go.Abs
structure Cmp {α:Type} (P:Program) (f:α→AV) (K:α→α→Int) (G:α→Prop) (g:Nat) (caps:List AV):Prop where
 cells:∀ x,(f x).cells=[f x]
 one:∀ x,(f x).one=true
 dat:∀ x,Dat (f x)
 dcaps:∀ x ∈ caps,Dat x
 run:∀ x y,G x→G y→Go.Abs.Pure P g (f x :: f y :: caps) (.int .i64 (K x y))
 ord:Ord K
theorem gj {α:Type} {f:α→AV} {l:List α} {k:Nat} {x:α} (h:k < l.length):bg (l.map f) k [f x]=(l.set k x).map f:=by
 simp only [bg,List.map_set,List.length_cons,List.length_nil,Nat.zero_add]
 rw [List.set_eq_take_append_cons_drop,if_pos (by simpa using h)]
 simp
theorem am (H:Hp) (b:Nat) (x y:List AV):an (an H b x) b y=an H b y:=by
 funext i; unfold an; split <;> rfl
theorem dt {H:Hp} {b:Nat} {cs:List AV} (h:H b=some cs):H=an H b cs:=by
 funext i
 by_cases e:i=b
 ·subst e; rw [au,h]
 ·rw [ac e]
def dl {α:Type} [Inhabited α] (K:α→α→Int) (a i j:Nat) (M:List α):Prop:=∀ p q,a ≤ p→p < q→q ≤ i→q ≠ j→¬ K (M.getD q default) (M.getD p default) < 0
section
variable {α:Type} [Inhabited α] {f:α→AV} {K:α→α→Int} {G:α→Prop} {g:Nat} {caps:List AV}
theorem dl.start {a i:Nat} {M:List α} (h:aP K a i M):dl K a i i M:=fun p q h1 h2 h3 h4=>h p q h1 h2 (by omega)
theorem dl.done {a i j:Nat} {M:List α} (hK:Ord K) (h:dl K a i j M) (hj:j=a ∨ (a < j∧¬ K (M.getD j default) (M.getD (j - 1) default) < 0)):aP K a (i + 1) M:=by
 intro p q h1 h2 h3
 by_cases e:q=j
 ·subst e
  rcases hj with hj | ⟨hj,hk⟩
  ·omega
  ·by_cases e2:p=q - 1
   ·rw [e2]; exact hk
   ·exact hK.negtr _ _ _ (h p (q - 1) h1 (by omega) (by omega) (by omega)) hk
 ·exact h p q h1 h2 (by omega) e
theorem dl.step {a i j:Nat} {M:List α} (hK:Ord K) (h:dl K a i (j + 1) M) (haj:a ≤ j) (hji:j + 1 ≤ i) (hi:i < M.length) (hk:K (M.getD (j + 1) default) (M.getD j default) < 0):dl K a i j (swp M (j + 1) j):=by
 intro p q h1 h2 h3 h4
 rw [cf (by omega) (by omega),cf (by omega) (by omega)]
 rw [if_neg h4]
 by_cases e1:q=j + 1
 ·rw [if_pos e1]
  by_cases e2:p=j
  ·rw [if_pos e2]; exact hK.asym _ _ hk
  ·rw [if_neg e2,if_neg (by omega)]
   exact h p j h1 (by omega) (by omega) (by omega)
 ·rw [if_neg e1]
  by_cases e2:p=j
  ·rw [if_pos e2]; exact h (j + 1) q (by omega) (by omega) h3 e1
  ·rw [if_neg e2]
   by_cases e3:p=j + 1
   ·rw [if_pos e3]; exact h j q (by omega) (by omega) h3 e1
   ·rw [if_neg e3]; exact h p q h1 h2 h3 e1
theorem aP.mono {a b a' b':Nat} {M:List α} (h:aP K a b M) (h1:a ≤ a') (h2:b' ≤ b):aP K a' b' M:=fun p q k1 k2 k3=>h p q (by omega) k2 (by omega)
theorem PermR.mem {a b:Nat} {L M:List α} (h:PermR a b L M) (hG:∀ x ∈ L,G x):∀ x ∈ M,G x:=fun x hx=>hG x (h.perm.mem_iff.1 hx)
attribute [local irreducible] aA ag aU aO aE aH ay aJ aQ aZ Go.Abs.Fn aL Go.Abs.Pure ak aB Yl
theorem BE (hc:Cmp Tryz.prog f K G g caps) {L:List α} {H:Hp} {b nx n a e:Nat} (hH:H b=some (L.map f)) (hn:L.length=n) (hG:∀ x ∈ L,G x) (hae:a ≤ e) (hen:e ≤ n) (hn2:n ≤ 1000000000) :
    Abs.Fn Tryz.prog 149 [.msl b n 1 0 n,.int .i64 a,.int .i64 e,.func g caps] H nx fun r H' nx'=>nx'=nx∧∃ L',H'=an H b (L'.map f)∧PermR a e L L'∧aP K a e L':=by
 refine Abs.Fn.of_c2 follows v4 (Nat.le_of_ble_eq_true rfl) ?_
 simp only [wN,cO,cG,cN,cM,cD,cF,cB,av,aF]
 (have zz:=and_self; repeat' (first | refine zW ?_ | apply a_n | refine zO ?_ | refine vZ ?_ | fail)) <;> (try clear zz)
 refine be (X:=Nat × List α) (fun x=>[(0,.msl b n 1 0 n),(1,.int .i64 a),(2,.int .i64 e),(3,.func g caps),(8,.int .i64 (x.1:Nat))]) (fun x H' nx'=>a + 1 ≤ x.1∧(x.1 ≤ e ∨ x.1=a + 1)∧H'=an H b (x.2.map f)∧nx'=nx∧PermR a e L x.2∧aP K a x.1 x.2) (fun x=>e + 1 - x.1) (a + 1,L) ⟨Nat.le_refl _,.inr rfl,dt hH,rfl,.refl,aP.one (Nat.le_refl _)⟩ ag0 ?_
 rintro ⟨i,M0⟩ H' nx' ⟨h1,h2,rfl,rfl,hp0,hs0⟩
 dsimp only at *
 have hl0:M0.length=n:=by rw [hp0.len,hn]
 by_cases hi:i < e
 rotate_left
 ·(have zz:=and_self; repeat' (first | refine zW ?_ | apply a_n | apply a_x | refine zO ?_ | refine vZ ?_ | (refine zGZ ?_ ?_ <;> (intro _hg; try (exfalso; omega))) | refine ae rfl ?_ | fail)) <;> (try clear zz)
  exact ⟨rfl,M0,rfl,hp0,hs0.mono (Nat.le_refl _) (by omega)⟩
 (have zz:=and_self; repeat' (first | refine zW ?_ | apply a_n | refine zO ?_ | refine vZ ?_ | (refine zGZ ?_ ?_ <;> (intro _hg; try (exfalso; omega))) | fail)) <;> (try clear zz)
 refine be (X:=Nat × List α) (fun x=>[(0,.msl b n 1 0 n),(1,.int .i64 a),(2,.int .i64 e),(3,.func g caps),(8,.int .i64 (i:Nat)),(9,.int .i64 (x.1:Nat))]) (fun x H' nxx=>a ≤ x.1∧x.1 ≤ i∧H'=an H b (x.2.map f)∧nxx=nx'∧PermR a e L x.2∧dl K a i x.1 x.2) (fun x=>x.1) (i,M0) ⟨by omega,Nat.le_refl _,rfl,rfl,hp0,.start hs0⟩ ag0 ?_
 clear hp0 hs0 hl0
 rintro ⟨j,M⟩ H' nxx ⟨a1,a2,rfl,rfl,hp,hal⟩
 dsimp only at *
 have hl:M.length=n:=by rw [hp.len,hn]
 have hGM:=hp.mem hG
 by_cases hja:j=a
 ·subst hja
  (have zz:=and_self; repeat' (first | refine zW ?_ | refine zM ?_ | apply a_n | apply a_x | refine zO ?_ | refine vZ ?_ | refine gFZ ?_ | (refine zGZ ?_ ?_ <;> (intro _hg; try (exfalso; omega))) | refine cFZ ?_ | fail)) <;> (try clear zz)
  exact ⟨(i + 1,M),by dsimp only; omega,⟨by dsimp only; omega,.inl (by dsimp only; omega),rfl,rfl,hp,hal.done hc.ord (.inl rfl)⟩,ag0⟩
 ·obtain ⟨k,rfl⟩:∃ k,j=k + 1:=⟨j - 1,by omega⟩
  have tj:((k + 1:Nat):Int) - 1=(k:Int):=by omega
  have lc:=hc.run (M.getD (k + 1) default) (M.getD k default) (hGM _ (ai (by omega))) (hGM _ (ai (by omega)))
  have d1:=hc.dat (M.getD (k + 1) default)
  have d2:=hc.dat (M.getD k default)
  have dcap:=hc.dcaps
  generalize hKK:K (M.getD (k + 1) default) (M.getD k default)=kk at lc
  by_cases hlt:kk < 0
  ·obtain ⟨M1,hl1,lm1,lm2⟩:∃ M1:List α,M1.length=n∧bg (M.map f) (k + 1) [f (M.getD k default)]=M1.map f∧bg (M1.map f) k [f (M.getD (k + 1) default)]=(swp M (k + 1) k).map f :=
     ⟨M.set (k + 1) (M.getD k default),by simp [hl],gj (by omega),by rw [gj (by simp; omega)]; rfl⟩
   have lm3:=lm2
   simp only [bg,List.length_cons,List.length_nil,Nat.zero_add] at lm1 lm2
   (have zz:=aI @tj (aI @Int.toNat_natCast (aI @lm1 (aI @lm2 (aI hc.cells hc.one)))); repeat' (first | refine zW ?_ | refine zM ?_ | apply a_n | refine zO ?_ | refine vZ ?_ | refine cZ ?_ (hp:=lc) (hs:=by (first | refine ah ?_ rfl | apply ap); (repeat' (first | exact af | apply aC | apply aq | exact d1 | exact d2 | exact ao dcap)); first | done | fail) | refine stZ ?_ | refine gTZ ?_ | (refine zGZ ?_ ?_ <;> (intro _hg; try (exfalso; omega))) | fail)) <;> (try clear zz)
   refine ⟨(k,swp M (k + 1) k),by dsimp only; omega,⟨by dsimp only; omega,by dsimp only; omega,?_,rfl,hp.trans (PermR.swap (by omega) (by omega) (by omega)),hal.step hc.ord (by omega) (by omega) (by omega) (by rw [hKK]; exact hlt)⟩,(have zz:=@tj; agZ)⟩
   dsimp only
   rw [am,am,lm3]
  ·(have zz:=aI @tj (aI @Int.toNat_natCast (aI hc.cells hc.one)); repeat' (first | refine zW ?_ | refine zM ?_ | apply a_n | apply a_x | refine zO ?_ | refine vZ ?_ | refine cZ ?_ (hp:=lc) (hs:=by (first | refine ah ?_ rfl | apply ap); (repeat' (first | exact af | apply aC | apply aq | exact d1 | exact d2 | exact ao dcap)); first | done | fail) | refine gTZ ?_ | (refine zGZ ?_ ?_ <;> (intro _hg; try (exfalso; omega))) | fail)) <;> (try clear zz)
   exact ⟨(i + 1,M),by dsimp only; omega,⟨by dsimp only; omega,.inl (by dsimp only; omega),rfl,rfl,hp,hal.done hc.ord (.inr ⟨by omega,by rw [Nat.add_sub_cancel,hKK]; exact hlt⟩)⟩,ag0⟩
end
end Go.Proofs.YtjgpfclngkcedaaGreat
namespace Go.Proofs.YtjgpfclngkcedaaGreat
open Go Go.Abs
def Kid (p c:Nat):Prop:=c=2 * p + 1 ∨ c=2 * p + 2
def dD {α:Type} [Inhabited α] (K:α→α→Int) (a hi r:Nat) (M:List α):Prop:=∀ p c,r ≤ p→Kid p c→c < hi→¬ K (M.getD (a + p) default) (M.getD (a + c) default) < 0
structure SiftR {α:Type} [Inhabited α] (K:α→α→Int) (a hi lo root:Nat) (M:List α):Prop where
 le:lo ≤ root
 heap:∀ p c,lo ≤ p→p ≠ root→Kid p c→c < hi→¬ K (M.getD (a + p) default) (M.getD (a + c) default) < 0
 up:∀ q c,lo ≤ q→Kid q root→Kid root c→c < hi→¬ K (M.getD (a + q) default) (M.getD (a + c) default) < 0
section
variable {α:Type} [Inhabited α] {f:α→AV} {K:α→α→Int} {G:α→Prop} {g:Nat} {caps:List AV}
theorem SiftR.start {a hi lo:Nat} {M:List α} (h:dD K a hi (lo + 1) M):SiftR K a hi lo lo M :=
 ⟨Nat.le_refl _,fun p c h1 h2=>h p c (by omega),fun q c h1 h2=>by unfold Kid at h2; omega⟩
theorem SiftR.leaf {a hi lo root:Nat} {M:List α} (h:SiftR K a hi lo root M) (hr:hi ≤ 2 * root + 1):dD K a hi lo M:=fun p c h1 h2 h3=>by
 by_cases e:p=root
 ·subst e; unfold Kid at h2; omega
 ·exact h.heap p c h1 e h2 h3
theorem SiftR.stop {a hi lo root c:Nat} {M:List α} (hK:Ord K) (h:SiftR K a hi lo root M) (hb:∀ d,Kid root d→d < hi→¬ K (M.getD (a + c) default) (M.getD (a + d) default) < 0) (hn:¬ K (M.getD (a + root) default) (M.getD (a + c) default) < 0):dD K a hi lo M:=fun p d h1 h2 h3=>by
 by_cases e:p=root
 ·subst e; exact hK.negtr _ _ _ (hb d h2 h3) hn
 ·exact h.heap p d h1 e h2 h3
theorem SiftR.step {a hi lo root c:Nat} {M:List α} (hK:Ord K) (h:SiftR K a hi lo root M) (hkid:Kid root c) (hc:c < hi) (hM:a + hi ≤ M.length) (hb:∀ d,Kid root d→d < hi→¬ K (M.getD (a + c) default) (M.getD (a + d) default) < 0) (hn:K (M.getD (a + root) default) (M.getD (a + c) default) < 0):SiftR K a hi lo c (swp M (a + root) (a + c)):=by
 have hrc:root < c:=by unfold Kid at hkid; omega
 have hg:∀ k,(swp M (a + root) (a + c)).getD (a + k) default=if k=c then M.getD (a + root) default else if k=root then M.getD (a + c) default else M.getD (a + k) default:=fun k=>by
  rw [cf (by omega) (by omega)]
  by_cases e:k=c
  ·rw [if_pos (by omega),if_pos e]
  ·rw [if_neg (by omega),if_neg e]
   by_cases e2:k=root
   ·rw [if_pos (by omega),if_pos e2]
   ·rw [if_neg (by omega),if_neg e2]
 refine ⟨by have:=h.le; omega,fun p d h1 h2 h3 h4=>?_,fun q d h1 h2 h3 h4=>?_⟩
 ·rw [hg,hg,if_neg h2]
  by_cases e1:p=root
  ·rw [if_pos e1]
   subst e1
   by_cases e2:d=c
   ·rw [if_pos e2]; exact hK.asym _ _ hn
   ·rw [if_neg e2,if_neg (by unfold Kid at h3; omega)]; exact hb d h3 h4
  ·rw [if_neg e1]
   have hdc:d ≠ c:=fun e=>by subst e; unfold Kid at h3 hkid; omega
   rw [if_neg hdc]
   by_cases e2:d=root
   ·rw [if_pos e2]; subst e2; exact h.up p c h1 h3 hkid hc
   ·rw [if_neg e2]; exact h.heap p d h1 e1 h3 h4
 ·have eq:q=root:=by unfold Kid at h2 hkid; omega
  subst eq
  rw [hg,hg,if_neg (by omega),if_pos rfl,if_neg (by unfold Kid at h3; omega),if_neg (by unfold Kid at h3; omega)]
  exact h.heap c d (by omega) (by omega) h3 h4
theorem b4 {M:List α} {i j:Nat} (hi:i < M.length) (hj:j < M.length):∃ M1:List α,M1.length=M.length∧bg (M.map f) i [f (M.getD j default)]=M1.map f∧bg (M1.map f) j [f (M.getD i default)]=(swp M i j).map f :=
 ⟨M.set i (M.getD j default),by simp,gj hi,by rw [gj (by simpa using hj)]; rfl⟩
theorem bO {a c:Nat}:((a:Int) + (c:Int)).toNat=a + c:=by omega
theorem fJ {a c:Nat}:((a:Int) + (c:Int) + 1).toNat=a + (c + 1):=by omega
attribute [local irreducible] aA ag aU aO aE aH ay aJ aQ aZ Go.Abs.Fn aL Go.Abs.Pure ak aB Yl
theorem wk (hc:Cmp Tryz.prog f K G g caps) {L:List α} {H:Hp} {b nx n a lo hi:Nat} (hH:H b=some (L.map f)) (hn:L.length=n) (hG:∀ x ∈ L,G x) (hhi:a + hi ≤ n) (hn2:n ≤ 1000000000) (hlo:lo ≤ n) (hheap:dD K a hi (lo + 1) L) :
    Abs.Fn Tryz.prog 165 [.msl b n 1 0 n,.int .i64 lo,.int .i64 hi,.int .i64 a,.func g caps] H nx fun r H' nx'=>nx'=nx∧∃ L',H'=an H b (L'.map f)∧PermR a (a + hi) L L'∧dD K a hi lo L':=by
 refine Abs.Fn.of_c2 follows yn (Nat.le_of_ble_eq_true rfl) ?_
 simp only [zs,cO,cG,cN,cM,cD,cF,cB,av,aF]
 (have zz:=and_self; repeat' (first | refine zW ?_ | apply a_n | refine zO ?_ | refine vZ ?_ | fail)) <;> (try clear zz)
 refine be (X:=Nat × List α) (fun x=>[(0,.msl b n 1 0 n),(2,.int .i64 hi),(3,.int .i64 a),(4,.func g caps),(10,.int .i64 (x.1:Nat))]) (fun x H' nx'=>x.1 ≤ n∧H'=an H b (x.2.map f)∧nx'=nx∧PermR a (a + hi) L x.2∧SiftR K a hi lo x.1 x.2) (fun x=>n + 1 - x.1) (lo,L) ⟨hlo,dt hH,rfl,.refl,.start hheap⟩ ag0 ?_
 rintro ⟨root,M⟩ H' nx' ⟨h0,rfl,rfl,hp,hs⟩
 dsimp only at *
 have hl:M.length=n:=by rw [hp.len,hn]
 have hGM:=hp.mem hG
 by_cases hch:2 * root + 1 < hi
 rotate_left
 ·(have zz:=and_self; repeat' (first | refine zW ?_ | apply a_n | apply a_x | refine zO ?_ | refine vZ ?_ | (refine zGZ ?_ ?_ <;> (intro _hg; try (exfalso; omega))) | refine ae rfl ?_ | fail)) <;> (try clear zz)
  exact ⟨rfl,M,rfl,hp,hs.leaf (by omega)⟩
 have dcap:=hc.dcaps
 have tch:(2:Int) * (root:Int) + 1=((2 * root + 1:Nat):Int):=by omega
 have tch2:((2 * root + 1:Nat):Int) + 1=((2 * root + 1 + 1:Nat):Int):=by omega
 have w1:IntKind.wrap .i64 (2 * (root:Int))=2 * (root:Int):=mN (by omega) (by omega)
 obtain ⟨c,hkid,hchi,hbest,hsel⟩:∃ c,Kid root c∧c < hi∧(∀ d,Kid root d→d < hi→¬ K (M.getD (a + c) default) (M.getD (a + d) default) < 0)∧((c=2 * root + 1 + 1∧K (M.getD (a + (2 * root + 1)) default) (M.getD (a + (2 * root + 1 + 1)) default) < 0) ∨ (c=2 * root + 1∧(2 * root + 1 + 1 < hi→¬ K (M.getD (a + (2 * root + 1)) default) (M.getD (a + (2 * root + 1 + 1)) default) < 0))):=by
  by_cases h2:2 * root + 1 + 1 < hi∧K (M.getD (a + (2 * root + 1)) default) (M.getD (a + (2 * root + 1 + 1)) default) < 0
  ·refine ⟨2 * root + 1 + 1,.inr rfl,h2.1,fun d hd hd2=>?_,.inl ⟨rfl,h2.2⟩⟩
   rcases hd with rfl | rfl
   ·exact hc.ord.asym _ _ h2.2
   ·exact hc.ord.irr _
  ·refine ⟨2 * root + 1,.inl rfl,hch,fun d hd hd2=>?_,.inr ⟨rfl,fun h h3=>h2 ⟨h,h3⟩⟩⟩
   rcases hd with rfl | rfl
   ·exact hc.ord.irr _
   ·exact fun h3=>h2 ⟨hd2,h3⟩
 have lc2:=hc.run (M.getD (a + root) default) (M.getD (a + c) default) (hGM _ (ai (by omega))) (hGM _ (ai (by omega)))
 have e1:=hc.dat (M.getD (a + root) default)
 have e2:=hc.dat (M.getD (a + c) default)
 generalize hK2:K (M.getD (a + root) default) (M.getD (a + c) default)=k2 at lc2
 refine cU ?_
 refine aS (fun T H'' nx''=>T 0=.msl b n 1 0 n∧T 2=.int .i64 hi∧T 3=.int .i64 a∧T 4=.func g caps∧T 10=.int .i64 (root:Nat)∧T 11=.int .i64 ((2 * root + 1:Nat):Int)∧H''=an H b (M.map f)∧nx'=nx'') ?_ ?_
 ·(have zz:=aI @w1 @tch; repeat' (first | apply a_n | refine zO ?_ | refine vZ ?_ | fail)) <;> (try clear zz)
  exact ⟨rfl,rfl,rfl,rfl,rfl,rfl,rfl,rfl⟩
 rintro T _ _ ⟨t0,t2,t3,t4,t10,t11,rfl,rfl⟩
 refine aS (fun T H'' nx''=>T 0=.msl b n 1 0 n∧T 2=.int .i64 hi∧T 3=.int .i64 a∧T 4=.func g caps∧T 10=.int .i64 (root:Nat)∧T 11=.int .i64 ((2 * root + 1:Nat):Int)∧H''=an H b (M.map f)∧nx'=nx'') ?_ ?_
 ·(have zz:=aI @t0 (aI @t2 (aI @t3 (aI @t4 (aI @t10 @t11)))); repeat' (first | refine zW ?_ | apply a_n | refine zO ?_ | refine vZ ?_ | (refine zGZ ?_ ?_ <;> (intro _hg; try (exfalso; omega))) | fail)) <;> (try clear zz)
  all_goals exact ⟨(have zz:=@t0; evZ),(have zz:=@t2; evZ),(have zz:=@t3; evZ),(have zz:=@t4; evZ),(have zz:=@t10; evZ),(have zz:=@t11; evZ),rfl,rfl⟩
 clear t0 t2 t3 t4 t10 t11
 rintro T _ _ ⟨t0,t2,t3,t4,t10,t11,rfl,rfl⟩
 refine aS (fun T H'' nx''=>T 0=.msl b n 1 0 n∧T 2=.int .i64 hi∧T 3=.int .i64 a∧T 4=.func g caps∧T 10=.int .i64 (root:Nat)∧T 11=.int .i64 (c:Nat)∧H''=an H b (M.map f)∧nx'=nx'') ?_ ?_
 ·by_cases h2:2 * root + 1 + 1 < hi
  ·have lc1:=hc.run (M.getD (a + (2 * root + 1)) default) (M.getD (a + (2 * root + 1 + 1)) default) (hGM _ (ai (by omega))) (hGM _ (ai (by omega)))
   have e3:=hc.dat (M.getD (a + (2 * root + 1)) default)
   have e4:=hc.dat (M.getD (a + (2 * root + 1 + 1)) default)
   generalize hK1:K (M.getD (a + (2 * root + 1)) default) (M.getD (a + (2 * root + 1 + 1)) default)=k1 at lc1 hsel
   have hlt:decide (((2 * root + 1 + 1:Nat):Int) < (hi:Int))=true:=decide_eq_true (by omega)
   generalize 2 * root + 1=ch at *
   rcases hsel with ⟨rfl,hk1⟩ | ⟨rfl,hk1⟩
   ·(have zz:=aI @t0 (aI @t2 (aI @t3 (aI @t4 (aI @t10 (aI @t11 (aI @tch2 (aI @hlt (aI @bO (aI @fJ (aI hc.cells hc.one)))))))))); repeat' (first | refine zW ?_ | refine zM ?_ | apply a_n | refine zO ?_ | refine vZ ?_ | refine cZ ?_ (hp:=lc1) (hs:=by (first | refine ah ?_ rfl | apply ap); (repeat' (first | exact af | apply aC | apply aq | exact e3 | exact e4 | exact ao dcap)); first | done | fail) | refine gTZ ?_ | (refine zGZ ?_ ?_ <;> (intro _hg; try (exfalso; omega))) | fail)) <;> (try clear zz)
    all_goals exact ⟨(have zz:=@t0; evZ),(have zz:=@t2; evZ),(have zz:=@t3; evZ),(have zz:=@t4; evZ),(have zz:=@t10; evZ),(have zz:=@t11; evZ),rfl,rfl⟩
   ·have hk1:=hk1 h2
    (have zz:=aI @t0 (aI @t2 (aI @t3 (aI @t4 (aI @t10 (aI @t11 (aI @tch2 (aI @hlt (aI @bO (aI @fJ (aI hc.cells hc.one)))))))))); repeat' (first | refine zW ?_ | refine zM ?_ | apply a_n | refine zO ?_ | refine vZ ?_ | refine cZ ?_ (hp:=lc1) (hs:=by (first | refine ah ?_ rfl | apply ap); (repeat' (first | exact af | apply aC | apply aq | exact e3 | exact e4 | exact ao dcap)); first | done | fail) | refine gTZ ?_ | (refine zGZ ?_ ?_ <;> (intro _hg; try (exfalso; omega))) | fail)) <;> (try clear zz)
    all_goals exact ⟨(have zz:=@t0; evZ),(have zz:=@t2; evZ),(have zz:=@t3; evZ),(have zz:=@t4; evZ),(have zz:=@t10; evZ),(have zz:=@t11; evZ),rfl,rfl⟩
  ·have hlt:decide (((2 * root + 1 + 1:Nat):Int) < (hi:Int))=false:=decide_eq_false (by omega)
   have hcc:c=2 * root + 1:=by
    rcases hsel with ⟨rfl,_⟩ | ⟨rfl,_⟩
    ·omega
    ·rfl
   subst hcc
   (have zz:=aI @t0 (aI @t2 (aI @t3 (aI @t4 (aI @t10 (aI @t11 (aI @tch2 @hlt)))))); repeat' (first | refine zW ?_ | refine zM ?_ | apply a_n | refine zO ?_ | refine vZ ?_ | refine gFZ ?_ | refine cFZ ?_ | fail)) <;> (try clear zz)
   all_goals exact ⟨(have zz:=@t0; evZ),(have zz:=@t2; evZ),(have zz:=@t3; evZ),(have zz:=@t4; evZ),(have zz:=@t10; evZ),(have zz:=@t11; evZ),rfl,rfl⟩
 clear t0 t2 t3 t4 t10 t11 hsel
 rintro T _ _ ⟨t0,t2,t3,t4,t10,t11,rfl,rfl⟩
 by_cases hk2:k2 < 0
 ·obtain ⟨M1,hl1,lm1,lm2⟩:=b4 (f:=f) (M:=M) (i:=a + root) (j:=a + c) (by omega) (by omega)
  have lm3:=lm2
  simp only [bg,List.length_cons,List.length_nil,Nat.zero_add] at lm1 lm2
  (have zz:=aI @t0 (aI @t2 (aI @t3 (aI @t4 (aI @t10 (aI @t11 (aI @bO (aI @lm1 (aI @lm2 (aI hc.cells hc.one))))))))); repeat' (first | refine zW ?_ | refine zM ?_ | apply a_n | refine zO ?_ | refine vZ ?_ | refine cZ ?_ (hp:=lc2) (hs:=by (first | refine ah ?_ rfl | apply ap); (repeat' (first | exact af | apply aC | apply aq | exact e1 | exact e2 | exact ao dcap)); first | done | fail) | refine stZ ?_ | (refine zGZ ?_ ?_ <;> (intro _hg; try (exfalso; omega))) | fail)) <;> (try clear zz)
  have hrc:root < c:=by unfold Kid at hkid; omega
  have hcn:c < n:=by omega
  refine ⟨(c,swp M (a + root) (a + c)),by dsimp only; omega,⟨by dsimp only; omega,?_,rfl,hp.trans (PermR.swap (by omega) (by omega) (by omega)),hs.step hc.ord hkid hchi (by omega) hbest (by rw [hK2]; exact hk2)⟩,(have zz:=aI @t0 (aI @t2 (aI @t3 @t4)); agZ)⟩
  dsimp only
  rw [am,am,lm3]
 ·(have zz:=aI @t0 (aI @t2 (aI @t3 (aI @t4 (aI @t10 (aI @t11 (aI @bO (aI hc.cells hc.one))))))); repeat' (first | refine zW ?_ | refine zM ?_ | apply a_n | apply a_r | refine zO ?_ | refine vZ ?_ | refine cZ ?_ (hp:=lc2) (hs:=by (first | refine ah ?_ rfl | apply ap); (repeat' (first | exact af | apply aC | apply aq | exact e1 | exact e2 | exact ao dcap)); first | done | fail) | (refine zGZ ?_ ?_ <;> (intro _hg; try (exfalso; omega))) | refine ae rfl ?_ | fail)) <;> (try clear zz)
  exact ⟨rfl,M,rfl,hp,hs.stop hc.ord hbest (by rw [hK2]; exact hk2)⟩
end
end Go.Proofs.YtjgpfclngkcedaaGreat
namespace Go.Proofs.YtjgpfclngkcedaaGreat
open Go Go.Abs
open Nat (reduceEqDiff reduceAdd reduceLeDiff)
section
variable {α:Type} [Inhabited α] {f:α→AV} {K:α→α→Int} {G:α→Prop} {g:Nat} {caps:List AV}
theorem dD.top {a hi:Nat} {M:List α} (hK:Ord K) (h:dD K a hi 0 M):∀ p,p < hi→¬ K (M.getD a default) (M.getD (a + p) default) < 0:=by
 intro p
 induction p using Nat.strongRecOn with
 | ind p ih =>
  intro hp
  by_cases e:p=0
  ·subst e; exact hK.irr _
  ·have k:Kid ((p - 1) / 2) p:=by unfold Kid; omega
   exact hK.negtr _ _ _ (h _ p (Nat.zero_le _) k hp) (ih ((p - 1) / 2) (by omega) (by omega))
structure TailR {α:Type} [Inhabited α] (K:α→α→Int) (a e k:Nat) (M:List α):Prop where
 sort:aP K k e M
 ge:∀ p q,a ≤ p→p < k→k ≤ q→q < e→¬ K (M.getD q default) (M.getD p default) < 0
theorem TailR.step {a e k:Nat} {M N:List α} (hK:Ord K) (ht:TailR K a e (a + (k + 1)) M) (hh:dD K a (k + 1) 0 M) (he:a + (k + 1) ≤ e) (hM:e ≤ M.length) (hp:PermR a (a + k) (swp M a (a + k)) N):TailR K a e (a + k) N:=by
 have hg:∀ j,(swp M a (a + k)).getD j default=if j=a + k then M.getD a default else if j=a then M.getD (a + k) default else M.getD j default:=fun j=>cf (by omega) (by omega) j
 have hmax:=hh.top hK
 have lo:∀ q,a + k ≤ q→q < e→∀ p,a ≤ p→p < a + k→¬ K (N.getD q default) (N.getD p default) < 0:=by
  intro q h1 h2
  rw [hp.out q (.inr h1),hg]
  have hl:(swp M a (a + k)).length=M.length:=tg _ _
  refine hp.all (p:=fun x=>¬ K (if q=a + k then M.getD a default else if q=a then M.getD (a + k) default else M.getD q default) x < 0) (by omega) (by omega) ?_
  intro p k1 k2
  rw [hg,if_neg (by omega:¬ p=a + k)]
  by_cases e1:q=a + k
  ·rw [if_pos e1]
   by_cases e2:p=a
   ·rw [if_pos e2]; exact hmax k (by omega)
   ·rw [if_neg e2]
    have:=hmax (p - a) (by omega)
    rw [show a + (p - a)=p by omega] at this
    exact this
  ·rw [if_neg e1,if_neg (by omega:¬ q=a)]
   by_cases e2:p=a
   ·rw [if_pos e2]; exact ht.ge (a + k) q (by omega) (by omega) (by omega) h2
   ·rw [if_neg e2]; exact ht.ge p q k1 (by omega) (by omega) h2
 refine ⟨fun p q h1 h2 h3=>?_,fun p q h1 h2 h3 h4=>lo q h3 h4 p h1 h2⟩
 rw [hp.out p (.inr h1),hp.out q (.inr (by omega)),hg,hg,if_neg (by omega:¬ q=a + k),if_neg (by omega:¬ q=a)]
 by_cases e1:p=a + k
 ·rw [if_pos e1]; exact ht.ge a q (Nat.le_refl _) (by omega) (by omega) h3
 ·rw [if_neg e1,if_neg (by omega:¬ p=a)]; exact ht.sort p q (by omega) h2 h3
theorem dD.swapTop {a k:Nat} {M:List α} (h:dD K a (k + 1) 0 M) (hM:a + (k + 1) ≤ M.length):dD K a k 1 (swp M a (a + k)):=by
 intro p c h1 h2 h3
 have hg:∀ j,(swp M a (a + k)).getD j default=if j=a + k then M.getD a default else if j=a then M.getD (a + k) default else M.getD j default:=fun j=>cf (by omega) (by omega) j
 have:p < c:=by unfold Kid at h2; omega
 rw [hg,hg,if_neg (by omega),if_neg (by omega),if_neg (by omega),if_neg (by omega)]
 exact h p c (Nat.zero_le _) h2 (by omega)
theorem TailR.start {a e:Nat} {M:List α}:TailR K a e e M:=⟨fun p q h1 h2 h3=>by omega,fun p q h1 h2 h3 h4=>by omega⟩
theorem TailR.done {a e:Nat} {M:List α} (h:TailR K a e a M):aP K a e M:=h.sort
theorem dD.start {a hi r:Nat} {M:List α} (hr:hi ≤ 2 * r + 1):dD K a hi r M:=fun p c h1 h2 h3=>by unfold Kid at h2; omega
attribute [local irreducible] aA ag aU aO aE aH ay aJ aQ aZ Go.Abs.Fn aL Go.Abs.Pure ak aB Yl
theorem z7 (hc:Cmp Tryz.prog f K G g caps) {L:List α} {H:Hp} {b nx n a e:Nat} (hH:H b=some (L.map f)) (hn:L.length=n) (hG:∀ x ∈ L,G x) (hae:a ≤ e) (hen:e ≤ n) (hn2:n ≤ 1000000000) :
    Abs.Fn Tryz.prog 150 [.msl b n 1 0 n,.int .i64 a,.int .i64 e,.func g caps] H nx fun r H' nx'=>nx'=nx∧∃ L',H'=an H b (L'.map f)∧PermR a e L L'∧aP K a e L':=by
 obtain ⟨h,rfl⟩:∃ h,e=a + h:=⟨e - a,by omega⟩
 refine Abs.Fn.of_c2 follows xT (Nat.le_of_ble_eq_true rfl) ?_
 simp only [zc,cO,cG,cN,cM,cD,cF,cB,av,aF]
 have dcap:=hc.dcaps
 have te:((a + h:Nat):Int) - (a:Int)=(h:Int):=by omega
 obtain ⟨r,tr,hr,hrn⟩:∃ r:Nat,aV .quo false false (.int .i64 ((h:Int) - 1)) (.int .i64 2)=some (.int .i64 (r:Int))∧h ≤ 2 * (r + 1) + 1∧r ≤ h:=by
  rcases Nat.eq_zero_or_pos h with e | e
  ·subst e; exact ⟨0,rfl,by omega,by omega⟩
  ·refine ⟨(h - 1) / 2,?_,by omega,by omega⟩
   rw [fC (by omega) (by omega) (by omega)]
   congr 2
   omega
 (have zz:=aI @te @tr; repeat' (first | refine zW ?_ | apply a_n | refine zO ?_ | refine vZ ?_ | fail)) <;> (try clear zz)
 refine be (X:=Nat × List α) (fun x=>[(0,.msl b n 1 0 n),(1,.int .i64 a),(3,.func g caps),(8,.int .i64 a),(9,.int .i64 0),(10,.int .i64 h),(11,.int .i64 ((x.1:Nat) - 1))]) (fun x H' nxx=>x.1 ≤ n + 1∧H'=an H b (x.2.map f)∧nx=nxx∧PermR a (a + h) L x.2∧dD K a h x.1 x.2) (fun x=>x.1) (r + 1,L) ⟨by dsimp only; omega,dt hH,rfl,.refl,dD.start (by dsimp only; omega)⟩ (by simp (disch:=omega) only [agr,ZG,reduceEqDiff,↓reduceIte,Int.add_sub_cancel]) ?_
 rintro ⟨i,M⟩ H' nxx ⟨h1,rfl,rfl,hp,hh⟩
 dsimp only at *
 have hl:M.length=n:=by rw [hp.len,hn]
 have hGM:=hp.mem hG
 rcases Nat.eq_zero_or_pos i with e | e
 ·subst e
  (have zz:=and_self; repeat' (first | refine zW ?_ | apply a_n | apply a_x | refine zO ?_ | refine vZ ?_ | (refine zGZ ?_ ?_ <;> (intro _hg; try (exfalso; omega))) | fail)) <;> (try clear zz)
  clear hGM
  refine be (X:=Nat × List α) (fun x=>[(0,.msl b n 1 0 n),(3,.func g caps),(8,.int .i64 a),(9,.int .i64 0),(12,.int .i64 ((x.1:Nat) - 1))]) (fun x H' nxx'=>x.1 ≤ h∧H'=an H b (x.2.map f)∧nx=nxx'∧PermR a (a + h) L x.2∧dD K a x.1 0 x.2∧TailR K a (a + h) (a + x.1) x.2) (fun x=>x.1) (h,M) ⟨Nat.le_refl _,rfl,rfl,hp,hh,.start⟩ (by simp (disch:=omega) only [agr,ZG,reduceEqDiff,↓reduceIte,Int.add_sub_cancel]) ?_
  clear hp hh hl
  rintro ⟨i,M⟩ H' nxx ⟨h1,rfl,rfl,hp,hh,ht⟩
  dsimp only at *
  have hl:M.length=n:=by rw [hp.len,hn]
  have hGM:=hp.mem hG
  rcases Nat.eq_zero_or_pos i with e | e
  ·subst e
   (have zz:=and_self; repeat' (first | refine zW ?_ | apply a_n | apply a_x | refine zO ?_ | refine vZ ?_ | (refine zGZ ?_ ?_ <;> (intro _hg; try (exfalso; omega))) | refine ae rfl ?_ | fail)) <;> (try clear zz)
   exact ⟨rfl,M,rfl,hp,ht.done⟩
  ·obtain ⟨k,rfl⟩:∃ k,i=k + 1:=⟨i - 1,by omega⟩
   have tj:((k + 1:Nat):Int) - 1=(k:Int):=by omega
   obtain ⟨M1,hl1,lm1,lm2⟩:=b4 (f:=f) (M:=M) (i:=a) (j:=a + k) (by omega) (by omega)
   have lm3:=lm2
   simp only [bg,List.length_cons,List.length_nil,Nat.zero_add] at lm1 lm2
   have hp1:PermR a (a + h) L (swp M a (a + k)):=hp.trans (PermR.swap (by omega) (by omega) (by omega))
   have hsl:(swp M a (a + k)).length=n:=by rw [hp1.len,hn]
   (have zz:=aI @tj (aI @bO (aI @lm1 (aI @lm2 (aI hc.cells hc.one)))); repeat' (first | refine zW ?_ | apply a_n | refine zO ?_ | refine vZ ?_ | refine stZ ?_ | (refine zGZ ?_ ?_ <;> (intro _hg; try (exfalso; omega))) | fail)) <;> (try clear zz)
   refine aD ev0 (have zz:=aI @tj @Int.natCast_zero; evZ) (wk hc (b:=b) (L:=swp M a (a + k)) (a:=a) (lo:=0) (hi:=k) (by rw [am,am,au,← lm3]) hsl (hp1.mem hG) (by omega) (by omega) (by omega) (hh.swapTop (by omega))) ?_
   rintro _ _ _ ⟨rfl,N,rfl,hpN,hhN⟩
   (have zz:=@tj; repeat' (first | apply a_n | refine zO ?_ | refine vZ ?_ | fail)) <;> (try clear zz)
   exact ⟨(k,N),by dsimp only; omega,⟨by dsimp only; omega,by dsimp only; rw [am,am,am],rfl,hp1.trans (hpN.mono (Nat.le_refl _) (by omega)),hhN,ht.step hc.ord hh (by omega) (by omega) hpN⟩,ag0⟩
 ·obtain ⟨k,rfl⟩:∃ k,i=k + 1:=⟨i - 1,by omega⟩
  have tj:((k + 1:Nat):Int) - 1=(k:Int):=by omega
  (have zz:=@tj; repeat' (first | refine zW ?_ | apply a_n | refine zO ?_ | refine vZ ?_ | (refine zGZ ?_ ?_ <;> (intro _hg; try (exfalso; omega))) | fail)) <;> (try clear zz)
  refine aD ev0 ev0 (wk hc (L:=M) (a:=a) (lo:=k) (hi:=h) au hl hGM (by omega) (by omega) (by omega) hh) ?_
  rintro _ _ _ ⟨rfl,N,rfl,hpN,hhN⟩
  (have zz:=@tj; repeat' (first | apply a_n | refine zO ?_ | refine vZ ?_ | fail)) <;> (try clear zz)
  exact ⟨(k,N),by dsimp only; omega,⟨by dsimp only; omega,by dsimp only; rw [am],rfl,hp.trans hpN,hhN⟩,ag0⟩
end
end Go.Proofs.YtjgpfclngkcedaaGreat
namespace Go.Proofs.YtjgpfclngkcedaaGreat
open Go Go.Abs
section
variable {α:Type} [Inhabited α] {f:α→AV} {K:α→α→Int} {G:α→Prop} {g:Nat} {caps:List AV}
def Aq:AV→Option AV
 | .ptr b n o=>some (.ptr b n o)
 | .iptr c o=>some (.iptr c o)
 | .func f c=>some (.func f c)
 | _=>none
theorem SV3:(∀ (T:Tm) (H:Hp) (x:Opd),aX T H (.nilck x)=Aq (ov T x))∧(∀ b n o:Nat,Aq (.ptr b n o)=some (.ptr b n o)):=⟨fun T H x=>by
 simp only [aX]
 cases ov T x <;> rfl,fun _ _ _=>rfl⟩
attribute [local irreducible] aA ag aU aO aE aH ay aJ aQ aZ Go.Abs.Fn aL Go.Abs.Pure ak aB Yl
theorem BJ (hc:Cmp Tryz.prog f K G g caps) {L:List α} {H:Hp} {b nx n a e:Nat} (hH:H b=some (L.map f)) (hn:L.length=n) (hae:a < e) (hen:e ≤ n) (hn2:n ≤ 1000000000) :
    Abs.Fn Tryz.prog 153 [.msl b n 1 0 n,.int .i64 a,.int .i64 e,.func g caps] H nx fun r H' nx'=>nx'=nx∧∃ L',H'=an H b (L'.map f)∧PermR a e L L':=by
 obtain ⟨m,rfl⟩:∃ m,e=m + 1:=⟨e - 1,by omega⟩
 have te:((m + 1:Nat):Int) - 1=(m:Int):=by omega
 refine Abs.Fn.of_c2 follows yk (Nat.le_of_ble_eq_true rfl) ?_
 simp only [zm,cO,cG,cN,cM,cD,cF,cB,av,aF]
 (have zz:=@te; repeat' (first | refine zW ?_ | apply a_n | refine zO ?_ | refine vZ ?_ | fail)) <;> (try clear zz)
 refine be (X:=Nat × Nat × List α) (fun x=>[(0,.msl b n 1 0 n),(8,.int .i64 (x.1:Nat)),(9,.int .i64 (x.2.1:Nat))]) (fun x H' nxx=>a ≤ x.1∧x.2.1 ≤ m∧H'=an H b (x.2.2.map f)∧nx=nxx∧PermR a (m + 1) L x.2.2) (fun x=>x.2.1) (a,m,L) ⟨Nat.le_refl _,Nat.le_refl _,dt hH,rfl,.refl⟩ ag0 ?_
 rintro ⟨i,j,M⟩ H' nxx ⟨h1,h2,rfl,rfl,hp⟩
 dsimp only at *
 have hl:M.length=n:=by rw [hp.len,hn]
 by_cases hij:i < j
 ·obtain ⟨k,rfl⟩:∃ k,j=k + 1:=⟨j - 1,by omega⟩
  have tj:((k + 1:Nat):Int) - 1=(k:Int):=by omega
  have ti:((i:Nat):Int) + 1=((i + 1:Nat):Int):=by omega
  obtain ⟨M1,hl1,lm1,lm2⟩:=b4 (f:=f) (M:=M) (i:=i) (j:=k + 1) (by omega) (by omega)
  have lm3:=lm2
  simp only [bg,List.length_cons,List.length_nil,Nat.zero_add] at lm1 lm2
  (have zz:=aI @tj (aI @ti (aI @lm1 (aI @lm2 (aI hc.cells hc.one)))); repeat' (first | refine zW ?_ | apply a_n | refine zO ?_ | refine vZ ?_ | refine stZ ?_ | (refine zGZ ?_ ?_ <;> (intro _hg; try (exfalso; omega))) | fail)) <;> (try clear zz)
  exact ⟨(i + 1,k,swp M i (k + 1)),by dsimp only; omega,⟨by dsimp only; omega,by dsimp only; omega,by dsimp only; rw [am,am,lm3],rfl,hp.trans (PermR.swap (by omega) (by omega) (by omega))⟩,ag0⟩
 ·(have zz:=and_self; repeat' (first | refine zW ?_ | apply a_n | apply a_x | refine zO ?_ | refine vZ ?_ | (refine zGZ ?_ ?_ <;> (intro _hg; try (exfalso; omega))) | refine ae rfl ?_ | fail)) <;> (try clear zz)
  exact ⟨rfl,M,rfl,hp⟩
theorem mY (hc:Cmp Tryz.prog f K G g caps) {L:List α} {H:Hp} {b c nx n i j s:Nat} (hH:H b=some (L.map f)) (hcc:H c=some [.int .i64 (s:Nat)]) (hn:L.length=n) (hG:∀ x ∈ L,G x) (hi:i < n) (hj:j < n) (hn2:n ≤ 1000000000) (hs:s ≤ 100) :
    Abs.Fn Tryz.prog 169 [.msl b n 1 0 n,.int .i64 i,.int .i64 j,.ptr c 1 0,.func g caps] H nx fun r H' nx'=>nx'=nx∧∃ i' j' s':Nat,r=.tup [.int .i64 i',.int .i64 j']∧((i'=i∧j'=j) ∨ (i'=j∧j'=i))∧s' ≤ s + 1∧H'=an H c [.int .i64 s']:=by
 refine Abs.Fn.of_c2 follows x8 (Nat.le_of_ble_eq_true rfl) ?_
 simp only [Ab,cO,cG,cN,cM,cD,cF,cB,av,aF]
 have dcap:=hc.dcaps
 have lc:=hc.run (L.getD j default) (L.getD i default) (hG _ (ai (by omega))) (hG _ (ai (by omega)))
 have e1:=hc.dat (L.getD j default)
 have e2:=hc.dat (L.getD i default)
 have ts:((s:Nat):Int) + 1=((s + 1:Nat):Int):=by omega
 have ls:∀ x y:AV,bg [x] 0 [y]=[y]:=fun _ _=>rfl
 simp only [bg,List.length_cons,List.length_nil,Nat.zero_add] at ls
 generalize hKK:K (L.getD j default) (L.getD i default)=kk at lc
 by_cases hlt:kk < 0
 ·(have zz:=aI @hH (aI @hcc (aI @Int.toNat_natCast (aI hc.cells (aI hc.one (aI @ts (aI @ls @SV3)))))); repeat' (first | refine zW ?_ | refine zM ?_ | apply a_n | apply a_r | refine zO ?_ | refine vZ ?_ | refine cZ ?_ (hp:=lc) (hs:=by (first | refine ah ?_ rfl | apply ap); (repeat' (first | exact af | apply aC | apply aq | exact e1 | exact e2 | exact ao dcap)); first | done | fail) | refine stZ ?_ | (refine zGZ ?_ ?_ <;> (intro _hg; try (exfalso; omega))) | refine ae rfl ?_ | refine r2Z ?_ | fail)) <;> (try clear zz)
  exact ⟨rfl,j,i,s + 1,rfl,.inr ⟨rfl,rfl⟩,Nat.le_refl _,rfl⟩
 ·(have zz:=aI @hH (aI @hcc (aI @Int.toNat_natCast (aI hc.cells hc.one))); repeat' (first | refine zW ?_ | refine zM ?_ | apply a_n | refine zO ?_ | refine vZ ?_ | refine cZ ?_ (hp:=lc) (hs:=by (first | refine ah ?_ rfl | apply ap); (repeat' (first | exact af | apply aC | apply aq | exact e1 | exact e2 | exact ao dcap)); first | done | fail) | (refine zGZ ?_ ?_ <;> (intro _hg; try (exfalso; omega))) | refine ae rfl ?_ | refine r2Z ?_ | fail)) <;> (try clear zz)
  exact ⟨rfl,i,j,s,rfl,.inl ⟨rfl,rfl⟩,Nat.le_succ _,dt hcc⟩
end
end Go.Proofs.YtjgpfclngkcedaaGreat