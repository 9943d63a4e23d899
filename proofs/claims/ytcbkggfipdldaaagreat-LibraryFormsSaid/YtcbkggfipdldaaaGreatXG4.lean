/- Texts of this claim, one after the other: Code, T0, T1, T2, T3, T4, T5, T6, T10, U1, U2v, U3v, U4v, U5v, U6v, U7v, U8v, U9v. -/
import Derived.Test.YtcbkggfipdldaaaGreatProg
import Derived.Test.YtcbkggfipdldaaaGreatXG3
import Derived.KernelRfl

set_option linter.unusedSimpArgs false
set_option linter.unusedVariables false
set_option maxHeartbeats 1000000
namespace Go.Proofs.YtcbkggfipdldaaaGreat
open Go Go.Abs Go.Abs.C2 Go.Abs.Ins Go.Abs.Opd Go.Abs.TK Go.Abs.MK
def cO(d:Nat)(i:Ins):Op2:=Op2.mk (some d) none i
def cG(d g:Nat)(b:Bool)(i:Ins):Op2:=Op2.mk (some d) (some (g,b)) i
def cN(k:Int):Opd:=Opd.c (AV.int IntKind.i64 k)
def cM(n:Nat):Ins:=Ins.mov (Opd.t n)
def cD(n:Nat):Ins:=Ins.ld1 (Opd.t n)
def cF(n:Nat):Opd:=Opd.c (AV.func n [])
def cB(o:BinOp)(x y:Opd):Ins:=Ins.bin o false false x y
def bf:Opd:=Opd.c (AV.bool false)
def bV:Opd:=Opd.c (AV.bool true)
def aa(d s:Nat):Op2:=Op2.mk (some d) none (Ins.mov (Opd.t s))
def aE(d s:Nat):Op2:=Op2.mk (some d) none (Ins.ld1 (Opd.t s))
def ca(d n s:Nat):Op2:=Op2.mk (some d) none (Ins.ldn n (Opd.t s))
def cm(d s:Nat):Op2:=Op2.mk (some d) none (Ins.lenS (Opd.t s))
def bK(d n s:Nat):Op2:=Op2.mk (some d) none (Ins.fa n (Opd.t s))
def bF(d s n:Nat):Op2:=Op2.mk (some d) none (Ins.ext (Opd.t s) n)
def aL(d f:Nat)(l:List Opd):Op2:=Op2.mk (some d) none (Ins.call (Opd.c (AV.func f [])) l)
def aF(d:Nat)(o:BinOp)(x y:Nat):Op2:=Op2.mk (some d) none (Ins.bin o false false (Opd.t x) (Opd.t y))
def aq(d:Nat)(o:BinOp)(x:Nat)(y:Int):Op2:=Op2.mk (some d) none (Ins.bin o false false (Opd.t x) (Opd.c (AV.int IntKind.i64 y)))
def a8(n p v:Nat):Op2:=Op2.mk none none (Ins.st n (Opd.t p) (Opd.t v))
def aN(d g:Nat)(i:Ins):Op2:=Op2.mk (some d) (some (g,false)) i
def ah(d g:Nat)(i:Ins):Op2:=Op2.mk (some d) (some (g,true)) i
def aA(n:Nat)(x y:C2):C2:=C2.cond (Opd.t n) x y
def ac(l:List Op2)(x:C2):C2:=C2.seq (C2.ops 0 l) x
def aP:AV:=AV.int IntKind.i64 0
theorem ay:(∀(d:Nat)(i:Ins),cO d i=Op2.mk (some d) none i)∧(∀(d g:Nat)(b:Bool)(i:Ins),cG d g b i=Op2.mk (some d) (some (g,b)) i)∧(∀(k:Int),cN k=Opd.c (AV.int IntKind.i64 k))∧(∀(n:Nat),cM n=Ins.mov (Opd.t n))∧(∀(n:Nat),cD n=Ins.ld1 (Opd.t n))∧(∀(n:Nat),cF n=Opd.c (AV.func n []))∧(∀(o:BinOp)(x y:Opd),cB o x y=Ins.bin o false false x y)∧(bf=Opd.c (AV.bool false))∧(bV=Opd.c (AV.bool true))∧(∀(d s:Nat),aa d s=Op2.mk (some d) none (Ins.mov (Opd.t s)))∧(∀(d s:Nat),aE d s=Op2.mk (some d) none (Ins.ld1 (Opd.t s)))∧(∀(d n s:Nat),ca d n s=Op2.mk (some d) none (Ins.ldn n (Opd.t s)))∧(∀(d s:Nat),cm d s=Op2.mk (some d) none (Ins.lenS (Opd.t s)))∧(∀(d n s:Nat),bK d n s=Op2.mk (some d) none (Ins.fa n (Opd.t s)))∧(∀(d s n:Nat),bF d s n=Op2.mk (some d) none (Ins.ext (Opd.t s) n))∧(∀(d f:Nat)(l:List Opd),aL d f l=Op2.mk (some d) none (Ins.call (Opd.c (AV.func f [])) l))∧(∀(d:Nat)(o:BinOp)(x y:Nat),aF d o x y=Op2.mk (some d) none (Ins.bin o false false (Opd.t x) (Opd.t y)))∧(∀(d:Nat)(o:BinOp)(x:Nat)(y:Int),aq d o x y=Op2.mk (some d) none (Ins.bin o false false (Opd.t x) (Opd.c (AV.int IntKind.i64 y))))∧(∀(n p v:Nat),a8 n p v=Op2.mk none none (Ins.st n (Opd.t p) (Opd.t v)))∧(∀(d g:Nat)(i:Ins),aN d g i=Op2.mk (some d) (some (g,false)) i)∧(∀(d g:Nat)(i:Ins),ah d g i=Op2.mk (some d) (some (g,true)) i)∧(∀(n:Nat)(x y:C2),aA n x y=C2.cond (Opd.t n) x y)∧(∀(l:List Op2)(x:C2),ac l x=C2.seq (C2.ops 0 l) x)∧(aP=AV.int IntKind.i64 0):=⟨fun _ _=>rfl,fun _ _ _ _=>rfl,fun _=>rfl,fun _=>rfl,fun _=>rfl,fun _=>rfl,fun _ _ _=>rfl,rfl,rfl,fun _ _=>rfl,fun _ _=>rfl,fun _ _ _=>rfl,fun _ _=>rfl,fun _ _ _=>rfl,fun _ _ _=>rfl,fun _ _ _=>rfl,fun _ _ _ _=>rfl,fun _ _ _ _=>rfl,fun _ _ _=>rfl,fun _ _ _=>rfl,fun _ _ _=>rfl,fun _ _ _=>rfl,fun _ _=>rfl,rfl⟩
theorem mkI{P:Program}{f:FuncId}{F:F2}{fn:Func}(h1:P.funcs[f]?=some fn)(h2:ra P fn=some F:=by kernel_rfl):Is P f F:=Is.mk' h1 h2
theorem follows:Tryz.prog.follows .mixedOrders=true:=by rfl
abbrev pU:=@Go.Abs.Pure Tryz.prog
theorem pO{f:FuncId}{F:F2}{args:List AV}{r:AV}(hf:Is Tryz.prog f F)(hb:aG Tryz.prog F.body (T0 args) bA 0 fun e T H nx=>aU e.ends (bt T H (fun x=>Snap H x r) F.res))(hl:args.length≤F.n:=by exact my rfl):Go.Abs.Pure Tryz.prog f args r:=Go.Abs.Pure.of_c2 follows hf hl hb
theorem fO{f:FuncId}{F:F2}{args:List AV}{H:Hp}{nx:Nat}{K:AV→Hp→Nat→Prop}(hf:Is Tryz.prog f F)(hb:aG Tryz.prog F.body (T0 args) H nx fun e T H nx=>aU e.ends (bt T H (fun x=>K x H nx) F.res))(hl:args.length≤F.n:=by exact my rfl):Go.Abs.Fn Tryz.prog f args H nx K:=Go.Abs.Fn.of_c2 follows hf hl hb
theorem qO{f:FuncId}{F:F2}{args:List AV}{r:AV}(hf:Is Tryz.prog f F)(hb:aG Tryz.prog F.body (T0 args) bA 0 fun e T H nx=>aU e.ends (bt T H (fun x=>SnapF H x r) F.res))(hl:args.length≤F.n:=by exact my rfl):Go.Abs.PureF Tryz.prog f args r:=Go.Abs.PureF.of_c2 follows hf hl hb
def b3:F2:=(F2.mk 116 [RV.t 4] (ac [cO 2 (box (t 0)),cO 4 (mov bf)] ((ac [ca 13 3 2,aL 14 4 [t 13],cO 15 (un UnOp.not (t 14)),aa 16 15,aN 17 16 (cM 1),aN 18 16 (lenS (t 17)),aN 19 16 (cB .gtr (t 18) (cN 10)),cO 20 (pick (t 16) bV (t 19))] (aA 20 (ac [aL 21 5 [],aa 4 21] ret) skip)).seq ((ac [aL 22 6 [],cm 23 22,cO 24 (mov (cN 0))] (block 0 (ac [aF 25 .lss 24 23] ((aA 25 skip (exit 0)).seq ((block 1 (ac [cO 26 (ixaS 1 (t 22) (t 24)),aE 27 26,aa 6 27] (ac [aa 29 6,bK 30 0 2,aE 31 30,bK 32 1 2,aE 33 32,bK 34 2 2,aE 35 34,aL 36 7 [t 29,t 31,t 33,t 35],aa 28 36,bF 37 28 0,bF 38 28 1,cO 7 (alloc (AV.agg [aP,aP,aP,AV.esl])),a8 4 7 37,aa 8 38] ((ac [aa 39 8,aq 40 .neq 39 0] (aA 40 ((ac [bK 41 3 7,aE 42 41,cm 43 42,aq 44 .gtr 43 0,aa 45 44,aN 46 45 (cM 8),aN 47 45 (cB .neq (t 46) (cN 2)),aN 48 45 (cM 47),ah 49 48 (cM 8),ah 50 48 (cB .neq (t 49) (cN 16)),aN 51 45 (pick (t 48) (t 50) bf),aN 52 45 (cM 51),ah 53 52 (cM 8),ah 54 52 (cB .neq (t 53) (cN 17)),aN 55 45 (pick (t 52) (t 54) bf),cO 56 (pick (t 45) bV (t 55))] (aA 56 (ac [cO 4 (mov bf)] ret) skip)).seq (exit 1)) skip)).seq ((ac [ca 57 4 7,aL 58 8 [t 57],aq 59 .neq 58 0,aa 60 59,aN 61 60 (fa 0 (t 7)),aN 62 60 (cD 61),aN 63 60 (fa 0 (t 2)),aN 64 60 (cD 63),aN 65 60 (cB .neq (t 62) (t 64)),cO 66 (pick (t 60) bV (t 65))] (aA 66 (ac [cO 4 (mov bf)] ret) skip)).seq (ac [ca 68 4 7,aL 69 9 [t 68],aa 67 69,bF 70 67 0,bF 71 67 1,aa 9 70,aa 10 71] ((ac [aa 72 10,aq 73 .neq 72 0,aa 74 73,aN 75 74 (cM 6),aN 76 74 (cB .eql (t 75) (c (AV.str (ByteArray.mk (Array.mk [99,111,110,115,101,110,115,117,115]))))),aN 77 74 (cM 76),aN 78 77 (cM 6),aN 79 77 (cB .eql (t 78) (c (AV.str (ByteArray.mk (Array.mk [99,111,109,109,105,116]))))),aN 80 74 (pick (t 77) bV (t 79)),aN 81 74 (cM 80),ah 82 81 (cM 9),ah 83 81 (un UnOp.not (t 82)),aN 84 74 (pick (t 81) (t 83) bf),cO 85 (pick (t 74) bV (t 84))] (aA 85 (ac [cO 4 (mov bf)] ret) skip)).seq ((ac [aa 86 6,cO 87 (cB .eql (t 86) (c (AV.str (ByteArray.mk (Array.mk [99,114,117,115,97,100,101,114]))))),aa 88 87,aN 89 88 (cM 1),aN 90 88 (lenS (t 89)),aN 91 88 (fa 0 (t 2)),aN 92 88 (cD 91),aN 93 88 (cB .neq (t 90) (t 92)),cO 94 (pick (t 88) bV (t 93)),aa 95 94,aN 96 95 (cM 1),aN 97 95 (call (cF 10) [t 96]),aN 98 95 (cB .neq (t 97) (cN 0)),cO 99 (pick (t 95) bV (t 98))] (aA 99 (exit 1) skip)).seq (ac [ca 101 4 7,aa 102 1,aL 103 11 [t 101,t 102],aa 100 103,bF 104 100 0,bF 105 100 1,cO 11 (alloc (AV.agg [aP,aP,aP,AV.esl])),a8 4 11 104,aa 12 105] (ac [aa 106 12,aq 107 .neq 106 0,aa 108 107,aN 109 108 (ldn 4 (t 7)),aN 110 108 (ldn 4 (t 11)),aN 111 108 (call (cF 12) [t 109,t 110]),aN 112 108 (un UnOp.not (t 111)),cO 113 (pick (t 108) bV (t 112))] (aA 113 (ac [cO 4 (mov bf)] ret) skip))))))))))).seq (ops 0 [aq 114 .add 24 1,aa 24 114])))).loop)).seq (ac [aL 115 5 [],aa 4 115] ret)))))
theorem is3:Is Tryz.prog 3 b3:=mkI Tryz.func3
def b4:F2:=(F2.mk 42 [RV.t 2] (ac [cO 1 (box (t 0)),cO 2 (mov bf)] ((ac [bK 5 1 1,aE 6 5,bK 7 2 1,aE 8 7,cO 9 (bldS 1 3 [aP] [(0,1,t 6),(1,1,t 8),(2,1,cN ((2)))]),cm 10 9,cO 11 (mov (cN 0))] (block 0 (ac [aF 12 .lss 11 10] ((aA 12 skip (exit 0)).seq ((block 1 (ac [cO 13 (ixaS 1 (t 9) (t 11)),aE 14 13,aa 4 14] (ac [bK 15 0 1,aE 16 15,bK 17 1 1,aE 18 17,aa 19 4,aL 20 13 [t 16,t 18,t 19],cO 21 (un UnOp.not (t 20))] (aA 21 (ac [cO 2 (mov bf)] ret) skip)))).seq (ops 0 [aq 22 .add 11 1,aa 11 22])))).loop)).seq (ac [bK 23 1 1,aE 24 23,aq 25 .lss 24 0,aa 26 25,aN 27 26 (fa 1 (t 1)),aN 28 26 (cD 27),aN 29 26 (cB .gtr (t 28) (cN 20)),cO 30 (pick (t 26) bV (t 29)),aa 31 30,aN 32 31 (fa 0 (t 1)),aN 33 31 (cD 32),aN 34 31 (fa 1 (t 1)),aN 35 31 (cD 34),aN 36 31 (mx (cN 2) [t 35]),aN 37 31 (fa 1 (t 1)),aN 38 31 (cD 37),aN 39 31 (cB .add (t 38) (cN 1)),aN 40 31 (call (cF 13) [t 33,t 36,t 39]),cO 41 (pick (t 31) bV (t 40)),aa 2 41] ret))))
theorem is4:Is Tryz.prog 4 b4:=mkI Tryz.func4
def b5:F2:=(F2.mk 192 [RV.t 0] (ac [cO 0 (mov bf)] (ac [aL 16 14 ([cN ((2)),cN ((2))]),aa 15 16,bF 17 15 0,bF 18 15 1,cO 1 (alloc (AV.agg [aP,aP,aP,AV.esl])),a8 4 1 17,aa 2 18] (ac [aL 20 15 ([cN ((2)),cN ((3))]),aa 19 20,bF 21 19 0,bF 22 19 1,cO 3 (alloc (AV.agg [aP,aP,aP,AV.esl])),a8 4 3 21,aa 4 22] (ac [aL 24 16 ([cN ((2)),cN ((3)),cN ((3))]),aa 23 24,bF 25 23 0,bF 26 23 1,cO 5 (alloc (AV.agg [aP,aP,aP,AV.esl])),a8 4 5 25,aa 6 26] (ac [aL 28 16 ([cN ((3)),cN ((3)),cN ((2))]),aa 27 28,bF 29 27 0,bF 30 27 1,cO 7 (alloc (AV.agg [aP,aP,aP,AV.esl])),a8 4 7 29,aa 8 30] (ac [aL 32 16 ([cN ((3)),cN ((2)),cN ((3))]),aa 31 32,bF 33 31 0,bF 34 31 1,cO 9 (alloc (AV.agg [aP,aP,aP,AV.esl])),a8 4 9 33,aa 10 34] (ac [aL 36 17 ([cN ((2)),cN ((2))]),aa 35 36,bF 37 35 0,bF 38 35 1,cO 11 (alloc (AV.agg [aP,aP,aP,AV.esl])),a8 4 11 37,aa 12 38] (ac [aL 40 18 ([cN ((2))]),aa 39 40,bF 41 39 0,bF 42 39 1,cO 13 (alloc (AV.agg [aP,aP,aP,AV.esl])),a8 4 13 41,aa 14 42] ((ac [aa 43 2,aa 44 4,aF 45 .add 43 44,aa 46 6,aF 47 .add 45 46,aa 48 12,aF 49 .add 47 48,aa 50 14,aF 51 .add 49 50,aq 52 .neq 51 0,aa 53 52,aN 54 53 (cM 8),aN 55 53 (cB .neq (t 54) (cN 16)),cO 56 (pick (t 53) bV (t 55)),aa 57 56,aN 58 57 (cM 10),aN 59 57 (cB .neq (t 58) (cN 16)),cO 60 (pick (t 57) bV (t 59)),aa 61 60,aN 62 61 (fa 3 (t 1)),aN 63 61 (cD 62),aN 64 61 (lenS (t 63)),aN 65 61 (cB .neq (t 64) (cN 4)),cO 66 (pick (t 61) bV (t 65)),aa 67 66,aN 68 67 (fa 3 (t 3)),aN 69 67 (cD 68),aN 70 67 (lenS (t 69)),aN 71 67 (cB .neq (t 70) (cN 4)),cO 72 (pick (t 67) bV (t 71)),aa 73 72,aN 74 73 (fa 3 (t 5)),aN 75 73 (cD 74),aN 76 73 (lenS (t 75)),aN 77 73 (cB .neq (t 76) (cN 6)),cO 78 (pick (t 73) bV (t 77)),aa 79 78,aN 80 79 (fa 3 (t 11)),aN 81 79 (cD 80),aN 82 79 (lenS (t 81)),aN 83 79 (cB .neq (t 82) (cN 4)),cO 84 (pick (t 79) bV (t 83)),aa 85 84,aN 86 85 (fa 3 (t 13)),aN 87 85 (cD 86),aN 88 85 (lenS (t 87)),aN 89 85 (cB .neq (t 88) (cN 4)),cO 90 (pick (t 85) bV (t 89))] (aA 90 (ac [cO 0 (mov bf)] ret) skip)).seq (ac [bK 91 3 1,aE 92 91,cO 93 (ixaS 3 (t 92) (cN 1)),bK 94 1 93,aE 95 94,cO 96 (bldS 1 2 [aP] [(0,1,cN ((0))),(1,1,cN ((0)))]),cO 97 (bldS 1 2 [aP] [(0,1,cN ((1))),(1,1,cN ((1)))]),cO 98 (bldS 1 2 [AV.esl] [(0,1,t 96),(1,1,t 97)]),aL 99 19 [t 95,t 98],aa 100 99,ah 101 100 (fa 3 (t 1)),ah 102 100 (cD 101),ah 103 100 (ixaS 3 (t 102) (cN 3)),ah 104 100 (fa 1 (t 103)),ah 105 100 (cD 104),ah 106 100 (lenS (t 105)),ah 107 100 (cB .eql (t 106) (cN 1)),cO 108 (pick (t 100) (t 107) bf),aa 109 108,ah 110 109 (fa 3 (t 1)),ah 111 109 (cD 110),ah 112 109 (ixaS 3 (t 111) (cN 1)),ah 113 109 (fa 2 (t 112)),ah 114 109 (cD 113),ah 115 109 (lenS (t 114)),ah 116 109 (cB .eql (t 115) (cN 0)),cO 117 (pick (t 109) (t 116) bf),aa 118 117,ah 119 118 (fa 3 (t 3)),ah 120 118 (cD 119),ah 121 118 (ixaS 3 (t 120) (cN 1)),ah 122 118 (fa 1 (t 121)),ah 123 118 (cD 122),ah 124 118 (lenS (t 123)),ah 125 118 (cB .eql (t 124) (cN 10)),cO 126 (pick (t 118) (t 125) bf),aa 127 126,ah 128 127 (fa 3 (t 3)),ah 129 127 (cD 128),ah 130 127 (ixaS 3 (t 129) (cN 3)),ah 131 127 (fa 1 (t 130)),ah 132 127 (cD 131),ah 133 127 (lenS (t 132)),ah 134 127 (cB .eql (t 133) (cN 1)),cO 135 (pick (t 127) (t 134) bf),aa 136 135,ah 137 136 (fa 3 (t 5)),ah 138 136 (cD 137),ah 139 136 (ixaS 3 (t 138) (cN 0)),ah 140 136 (fa 1 (t 139)),ah 141 136 (cD 140),ah 142 136 (lenS (t 141)),ah 143 136 (cB .eql (t 142) (cN 6)),cO 144 (pick (t 136) (t 143) bf),aa 145 144,ah 146 145 (fa 3 (t 11)),ah 147 145 (cD 146),ah 148 145 (ixaS 3 (t 147) (cN 0)),ah 149 145 (fa 1 (t 148)),ah 150 145 (cD 149),ah 151 145 (lenS (t 150)),ah 152 145 (cB .eql (t 151) (cN 7)),cO 153 (pick (t 145) (t 152) bf),aa 154 153,ah 155 154 (fa 3 (t 11)),ah 156 154 (cD 155),ah 157 154 (ixaS 3 (t 156) (cN 2)),ah 158 154 (fa 2 (t 157)),ah 159 154 (cD 158),ah 160 154 (bldS 1 2 [aP] [(0,1,cN ((1))),(1,1,cN ((1)))]),ah 161 154 (bldS 1 1 [AV.esl] [(0,1,t 160)]),ah 162 154 (call (cF 19) [t 159,t 161]),cO 163 (pick (t 154) (t 162) bf),aa 164 163,ah 165 164 (fa 3 (t 13)),ah 166 164 (cD 165),ah 167 164 (ixaS 3 (t 166) (cN 3)),ah 168 164 (fa 2 (t 167)),ah 169 164 (cD 168),ah 170 164 (bldS 1 2 [aP] [(0,1,cN ((1))),(1,1,cN ((1)))]),ah 171 164 (bldS 1 1 [AV.esl] [(0,1,t 170)]),ah 172 164 (call (cF 19) [t 169,t 171]),cO 173 (pick (t 164) (t 172) bf),aa 174 173,ah 175 174 (fa 3 (t 13)),ah 176 174 (cD 175),ah 177 174 (ixaS 3 (t 176) (cN 3)),ah 178 174 (fa 1 (t 177)),ah 179 174 (cD 178),ah 180 174 (lenS (t 179)),ah 181 174 (cB .eql (t 180) (cN 2)),cO 182 (pick (t 174) (t 181) bf),aa 183 182,ah 184 183 (fa 3 (t 13)),ah 185 183 (cD 184),ah 186 183 (ixaS 3 (t 185) (cN 1)),ah 187 183 (fa 1 (t 186)),ah 188 183 (cD 187),ah 189 183 (lenS (t 188)),ah 190 183 (cB .eql (t 189) (cN 1)),cO 191 (pick (t 183) (t 190) bf),aa 0 191] ret)))))))))))
theorem is5:Is Tryz.prog 5 b5:=mkI Tryz.func5
def b6:F2:=(F2.mk 4 [RV.t 0] (ac [cO 0 (mov (c AV.esl))] (ac [aL 1 22 [],aL 2 21 [t 1],aL 3 20 [t 2],aa 0 3] ret)))
theorem is6:Is Tryz.prog 6 b6:=mkI Tryz.func6
def b7:F2:=(F2.mk 28 [RV.cn 8 4,RV.t 9] (ac [cO 8 (alloc (AV.agg [aP,aP,aP,AV.esl])),cO 9 (mov (cN 0))] (ac [aL 13 22 [],aa 14 0,cO 15 (Ins.mget (one str) AV.nilf true (t 13) (t 14)),aa 12 15,bF 16 12 0,bF 17 12 1,aa 10 16,aa 11 17] ((ac [aa 18 11,cO 19 (un UnOp.not (t 18))] (aA 19 (ac [cO 20 (bld [aP,aP,aP,AV.esl] []),a8 4 8 20,cO 9 (mov (cN 8))] ret) skip)).seq (ac [aa 21 10,aa 22 1,aa 23 2,aa 24 3,cO 25 (call (t 21) [t 22,t 23,t 24]),bF 26 25 0,bF 27 25 1,a8 4 8 26,aa 9 27] ret)))))
theorem is7:Is Tryz.prog 7 b7:=mkI Tryz.func7
def b8:F2:=(F2.mk 83 [RV.t 2] (ac [cO 1 (box (t 0)),cO 2 (mov (cN 0))] ((block 0 ((ac [bK 8 0 1,aE 9 8,aq 10 .lss 9 1,aa 11 10,aN 12 11 (fa 0 (t 1)),aN 13 11 (cD 12),aN 14 11 (cB .gtr (t 13) (cN 5)),cO 15 (pick (t 11) bV (t 14)),aa 7 15] (aA 7 skip (ac [bK 16 1 1,aE 17 16,aq 18 .lss 17 1,aa 19 18,aN 20 19 (fa 1 (t 1)),aN 21 19 (cD 20),aN 22 19 (cB .gtr (t 21) (cN 8)),cO 23 (pick (t 19) bV (t 22)),aa 7 23] (aA 7 skip (ops 0 [bK 24 2 1,aE 25 24,aq 26 .lss 25 1,aa 27 26,aN 28 27 (fa 2 (t 1)),aN 29 27 (cD 28),aN 30 27 (cB .gtr (t 29) (cN 8)),cO 31 (pick (t 27) bV (t 30)),aa 7 31]))))).seq (aA 7 (ac [cO 2 (mov (cN 2))] ret) (ac [bK 33 3 1,aE 34 33,cm 35 34,aq 36 .lss 35 1,aa 37 36,aN 38 37 (fa 3 (t 1)),aN 39 37 (cD 38),aN 40 37 (lenS (t 39)),aN 41 37 (cB .gtr (t 40) (cN 1024)),cO 42 (pick (t 37) bV (t 41)),aa 32 42] (aA 32 (ac [cO 2 (mov (cN 5))] ret) skip))))).seq ((ac [bK 43 3 1,aE 44 43,cm 45 44,cO 46 (mov (cN 0))] (block 1 (ac [aF 47 .lss 46 45] ((aA 47 skip (exit 1)).seq ((block 2 (ac [aa 48 46,cO 49 (ixaS 3 (t 44) (t 46)),ca 50 3 49,cO 4 (alloc (AV.agg [AV.esl,AV.esl,AV.esl])),aa 3 48,a8 3 4 50] ((ac [bK 51 0 4,aE 52 51,bK 53 0 1,aE 54 53,bK 55 1 1,aE 56 55,aL 57 23 [t 52,t 54,t 56],aa 5 57] (ac [aa 58 5,aq 59 .neq 58 0] (aA 59 (ac [aa 60 5,aa 2 60] ret) skip))).seq (((mixS 1 [aa 61 3,aq 62 .gtr 61 0,aa 63 62,ah 64 63 (fa 3 (t 1)),ah 65 63 (cD 64),ah 66 63 (cM 3),ah 67 63 (cB .sub (t 66) (cN 1)),ah 68 63 (ixaS 3 (t 65) (t 67)),ah 69 63 (fa 0 (t 68)),ah 70 63 (cD 69),ah 71 63 (fa 0 (t 4)),ah 72 63 (cD 71),ah 73 63 (call (cF 24) [t 70,t 72]),ah 74 63 (cB .geq (t 73) (cN 0)),cO 75 (pick (t 63) (t 74) bf)] [(0,0),(1,0),(2,0),(3,0),(4,0),(5,0),(6,0),(7,0),(8,0),(9,0),(10,0),(11,0),(12,2),(13,0),(14,0)]).seq (aA 75 (ac [cO 2 (mov (cN 14))] ret) skip)).seq (ac [ca 76 4 1,ca 77 3 4,aL 78 25 [t 76,t 77],aa 6 78] (ac [aa 79 6,aq 80 .neq 79 0] (aA 80 (ac [aa 81 6,aa 2 81] ret) skip))))))).seq (ops 0 [aq 82 .add 46 1,aa 46 82])))).loop)).seq (ac [cO 2 (mov (cN 0))] ret)))))
theorem is8:Is Tryz.prog 8 b8:=mkI Tryz.func8
def b9:F2:=(F2.mk 33 [RV.t 2,RV.t 3] (ac [cO 1 (box (t 0)),cO 2 (mov bf),cO 3 (mov (cN 0))] ((ac [ca 9 4 1,aL 10 8 [t 9],aa 4 10] (ac [aa 11 4,aq 12 .neq 11 0] (aA 12 (ac [aa 13 4,cO 2 (mov bf),aa 3 13] ret) skip))).seq ((ac [bK 14 3 1,aE 15 14,cm 16 15,cO 17 (mov (cN 0))] (block 0 (ac [aF 18 .lss 17 16] ((aA 18 skip (exit 0)).seq ((block 1 (ac [cO 19 (ixaS 3 (t 15) (t 17)),ca 20 3 19,cO 6 (alloc (AV.agg [AV.esl,AV.esl,AV.esl])),a8 3 6 20] (ac [bK 21 1 6,aE 22 21,cm 23 22,cO 24 (mov (cN 0))] (block 2 (ac [aF 25 .lss 24 23] ((aA 25 skip (exit 2)).seq ((block 3 (ac [cO 26 (ixaS 1 (t 22) (t 24)),aE 27 26,aa 8 27] (ac [aa 28 8,aL 29 26 [t 28],cO 30 (un UnOp.not (t 29))] (aA 30 (ac [cO 2 (mov bf),cO 3 (mov (cN 0))] ret) skip)))).seq (ops 0 [aq 31 .add 24 1,aa 24 31])))).loop)))).seq (ops 0 [aq 32 .add 17 1,aa 17 32])))).loop)).seq (ac [cO 2 (mov bV),cO 3 (mov (cN 0))] ret)))))
theorem is9:Is Tryz.prog 9 b9:=mkI Tryz.func9
def b10:F2:=(F2.mk 47 [RV.t 2] (ac [cO 2 (mov (cN 0))] ((ac [aa 5 0,cm 6 5,aq 7 .lss 6 1,aa 8 7,aN 9 8 (cM 0),aN 10 8 (lenS (t 9)),aN 11 8 (cB .gtr (t 10) (cN 5)),cO 12 (pick (t 8) bV (t 11))] (aA 12 (ac [cO 2 (mov (cN 2))] ret) skip)).seq ((ac [cO 3 (mov (cN 0))] (block 0 ((ac [aa 13 3,aa 14 0,cm 15 14,aF 16 .lss 13 15] (aA 16 skip (exit 0))).seq ((block 1 ((ac [aa 19 0,aa 20 3,cO 21 (ixaS 1 (t 19) (t 20)),aE 22 21,aq 23 .lss 22 0,aa 24 23,aN 25 24 (cM 0),aN 26 24 (cM 3),aN 27 24 (ixaS 1 (t 25) (t 26)),aN 28 24 (cD 27),aN 29 24 (cM 0),aN 30 24 (lenS (t 29)),aN 31 24 (cB .geq (t 28) (t 30)),cO 32 (pick (t 24) bV (t 31))] (aA 32 (ac [cO 2 (mov (cN 2))] ret) skip)).seq (ac [cO 4 (mov (cN 0))] (block 2 ((ac [aa 33 4,aa 34 3,aF 35 .lss 33 34] (aA 35 skip (exit 2))).seq ((block 3 ((ops 1 [aa 38 0,aa 39 4,cO 40 (ixaS 1 (t 38) (t 39)),aE 41 40,aa 42 0,aa 43 3,cO 44 (ixaS 1 (t 42) (t 43)),aE 45 44,aF 46 .eql 41 45]).seq (aA 46 (ac [cO 2 (mov (cN 7))] ret) skip))).seq (ops 0 [aa 36 4,aq 37 .add 36 1,aa 4 37]))).loop)))).seq (ops 0 [aa 17 3,aq 18 .add 17 1,aa 3 18]))).loop)).seq (ac [cO 2 (mov (cN 0))] ret)))))
theorem DN:Is Tryz.prog 10 b10:=mkI Tryz.func10
def b11:F2:=(F2.mk 69 [RV.cn 4 4,RV.t 5] (ac [cO 2 (box (t 0)),cO 4 (alloc (AV.agg [aP,aP,aP,AV.esl])),cO 5 (mov (cN 0))] ((ac [ca 11 4 2,aL 12 8 [t 11],aa 6 12] (ac [aa 13 6,aq 14 .neq 13 0] (aA 14 (ac [cO 15 (bld [aP,aP,aP,AV.esl] []),aa 16 6,a8 4 4 15,aa 5 16] ret) skip))).seq ((ac [aa 17 1,aL 18 27 [t 17],aa 7 18] (ac [aa 19 7,aq 20 .neq 19 0] (aA 20 (ac [cO 21 (bld [aP,aP,aP,AV.esl] []),aa 22 7,a8 4 4 21,aa 5 22] ret) skip))).seq ((ac [aa 23 1,cm 24 23,bK 25 0 2,aE 26 25,aF 27 .neq 24 26] (aA 27 (ac [cO 28 (bld [aP,aP,aP,AV.esl] []),a8 4 4 28,cO 5 (mov (cN 22))] ret) skip)).seq (ac [bK 29 0 2,aE 30 29,bK 31 1 2,aE 32 31,bK 33 2 2,aE 34 33,cO 35 (bld [aP,aP,aP,AV.esl] [(0,1,t 30),(1,1,t 32),(2,1,t 34)]),cO 8 (alloc (AV.agg [aP,aP,aP,AV.esl])),a8 4 8 35] ((ac [bK 36 3 2,aE 37 36,cm 38 37,cO 39 (mov (cN 0))] (block 0 (ac [aF 40 .lss 39 38] ((aA 40 skip (exit 0)).seq ((block 1 (ac [cO 41 (ixaS 3 (t 37) (t 39)),ca 42 3 41,cO 10 (alloc (AV.agg [AV.esl,AV.esl,AV.esl])),a8 3 10 42] (mixS 9 [bK 43 3 8,aE 44 43,bK 45 0 10,aE 46 45,cO 47 (bldS 1 1 [AV.esl] [(0,1,t 46)]),aa 48 1,aL 49 28 [t 47,t 48],cO 50 (ixaS 1 (t 49) (cN 0)),aE 51 50,bK 52 1 10,aE 53 52,aa 54 1,aL 55 28 [t 53,t 54],bK 56 2 10,aE 57 56,aa 58 1,aL 59 28 [t 57,t 58],cO 60 (bld [AV.esl,AV.esl,AV.esl] [(0,1,t 51),(1,1,t 55),(2,1,t 59)]),cO 61 (bldS 3 1 [AV.esl,AV.esl,AV.esl] [(0,3,t 60)]),cO 62 (app 3 72 (t 44) (t 61)),bK 63 3 8,a8 1 63 62] [(0,0),(1,0),(2,0),(3,0),(4,3),(5,0),(9,0),(10,0),(11,0),(13,0),(14,0),(15,0),(6,1),(7,0),(8,0),(12,1),(16,1),(17,0),(18,1),(19,2),(20,0),(21,2)]))).seq (ops 0 [aq 64 .add 39 1,aa 39 64])))).loop)).seq (ac [bK 65 3 8,aE 66 65,aL 67 29 ([t 66,c (AV.func 30 [])])] (ac [ca 68 4 8,a8 4 4 68,cO 5 (mov (cN 0))] ret)))))))))
theorem Dt:Is Tryz.prog 11 b11:=mkI Tryz.func11
def b12:F2:=(F2.mk 75 [RV.t 4] (ac [cO 2 (box (t 0)),cO 3 (box (t 1)),cO 4 (mov bf)] ((ac [bK 8 0 2,aE 9 8,bK 10 0 3,aE 11 10,aF 12 .neq 9 11,aa 13 12,aN 14 13 (fa 1 (t 2)),aN 15 13 (cD 14),aN 16 13 (fa 1 (t 3)),aN 17 13 (cD 16),aN 18 13 (cB .neq (t 15) (t 17)),cO 19 (pick (t 13) bV (t 18)),aa 20 19,aN 21 20 (fa 2 (t 2)),aN 22 20 (cD 21),aN 23 20 (fa 2 (t 3)),aN 24 20 (cD 23),aN 25 20 (cB .neq (t 22) (t 24)),cO 26 (pick (t 20) bV (t 25)),aa 27 26,aN 28 27 (fa 3 (t 2)),aN 29 27 (cD 28),aN 30 27 (lenS (t 29)),aN 31 27 (fa 3 (t 3)),aN 32 27 (cD 31),aN 33 27 (lenS (t 32)),aN 34 27 (cB .neq (t 30) (t 33)),cO 35 (pick (t 27) bV (t 34))] (aA 35 (ac [cO 4 (mov bf)] ret) skip)).seq ((ac [cO 5 (mov (cN 0))] (block 0 ((ac [aa 36 5,bK 37 3 2,aE 38 37,cm 39 38,aF 40 .lss 36 39] (aA 40 skip (exit 0))).seq ((block 1 ((ops 2 [bK 43 3 2,aE 44 43,aa 45 5,cO 46 (ixaS 3 (t 44) (t 45)),ca 47 3 46,bK 48 3 3,aE 49 48,aa 50 5,cO 51 (ixaS 3 (t 49) (t 50)),ca 52 3 51,cO 6 (alloc (AV.agg [AV.esl,AV.esl,AV.esl])),cO 7 (alloc (AV.agg [AV.esl,AV.esl,AV.esl])),a8 3 6 47,a8 3 7 52]).seq (ac [bK 53 0 6,aE 54 53,bK 55 0 7,aE 56 55,aL 57 31 [t 54,t 56],aq 58 .neq 57 0,aa 59 58,aN 60 59 (fa 1 (t 6)),aN 61 59 (cD 60),aN 62 59 (fa 1 (t 7)),aN 63 59 (cD 62),aN 64 59 (call (cF 19) [t 61,t 63]),aN 65 59 (un UnOp.not (t 64)),cO 66 (pick (t 59) bV (t 65)),aa 67 66,aN 68 67 (fa 2 (t 6)),aN 69 67 (cD 68),aN 70 67 (fa 2 (t 7)),aN 71 67 (cD 70),aN 72 67 (call (cF 19) [t 69,t 71]),aN 73 67 (un UnOp.not (t 72)),cO 74 (pick (t 67) bV (t 73))] (aA 74 (ac [cO 4 (mov bf)] ret) skip)))).seq (ops 0 [aa 41 5,aq 42 .add 41 1,aa 5 42]))).loop)).seq (ac [cO 4 (mov bV)] ret)))))
theorem Cn:Is Tryz.prog 12 b12:=mkI Tryz.func12
def b13:F2:=(F2.mk 37 [RV.t 6] (ac [cO 6 (mov bf)] ((ac [aa 7 0,aq 8 .lss 7 1,aa 9 8,aN 10 9 (cM 0),aN 11 9 (cB .gtr (t 10) (cN 5)),cO 12 (pick (t 9) bV (t 11)),aa 13 12,aN 14 13 (cM 1),aN 15 13 (cB .lss (t 14) (cN 1)),cO 16 (pick (t 13) bV (t 15)),aa 17 16,aN 18 17 (cM 1),aN 19 17 (cB .gtr (t 18) (cN 8)),cO 20 (pick (t 17) bV (t 19)),aa 21 20,aN 22 21 (cM 2),aN 23 21 (cB .lss (t 22) (cN 1)),cO 24 (pick (t 21) bV (t 23)),aa 25 24,aN 26 25 (cM 2),aN 27 25 (cB .gtr (t 26) (cN 8)),cO 28 (pick (t 25) bV (t 27))] (aA 28 (ac [cO 6 (mov bV)] ret) skip)).seq (ac [aa 29 1,aa 30 0,aL 31 32 ([t 29,t 30,cN ((1000))]),aa 32 2,aa 33 0,aL 34 32 ([t 32,t 33,cN ((1000))]),aF 35 .mul 31 34,aq 36 .leq 35 3000,aa 6 36] ret))))
theorem Dq:Is Tryz.prog 13 b13:=mkI Tryz.func13
def b14:F2:=(F2.mk 15 [RV.cn 4 4,RV.t 5] (ac [cO 4 (alloc (AV.agg [aP,aP,aP,AV.esl])),cO 5 (mov (cN 0))] (ac [aa 7 0,aa 8 1,aL 9 33 ([t 7,t 8,cN ((1))]),cO 6 (alloc (AV.agg [aP,aP,aP,aP,AV.nilf,AV.nilf,AV.nilf])),a8 7 6 9] (ac [bK 10 3 6,Op2.mk none none (Ins.st 1 (t 10) (cN ((-1))))] (ac [ca 11 7 6,aL 12 34 [t 11],bF 13 12 0,bF 14 12 1,a8 4 4 13,aa 5 14] ret)))))
theorem Dx:Is Tryz.prog 14 b14:=mkI Tryz.func14
def b15:F2:=(F2.mk 14 [RV.cn 4 4,RV.t 5] (ac [cO 3 (box (t 1)),cO 4 (alloc (AV.agg [aP,aP,aP,AV.esl])),cO 5 (mov (cN 0))] (ac [aa 6 0,aE 7 3,aL 8 35 [t 7],cO 9 (mkfn 36 [t 3]),cO 10 (bld [aP,aP,aP,aP,AV.nilf,AV.nilf,AV.nilf] [(0,1,t 6),(1,1,cN ((2))),(2,1,t 8),(3,1,cN ((-1))),(5,1,t 9)]),aL 11 34 [t 10],bF 12 11 0,bF 13 11 1,a8 4 4 12,aa 5 13] ret)))
theorem Dn:Is Tryz.prog 15 b15:=mkI Tryz.func15
def b16:F2:=(F2.mk 15 [RV.cn 6 4,RV.t 7] (ac [cO 6 (alloc (AV.agg [aP,aP,aP,AV.esl])),cO 7 (mov (cN 0))] (ac [aa 8 0,aa 9 1,aa 10 2,cO 11 (bld [aP,aP,aP,aP,AV.nilf,AV.nilf,AV.nilf] [(0,1,t 8),(1,1,t 9),(2,1,t 10),(3,1,cN ((-1))),(4,1,c (AV.func 41 [])),(5,1,c (AV.func 42 []))]),aL 12 34 [t 11],bF 13 12 0,bF 14 12 1,a8 4 6 13,aa 7 14] ret)))
theorem Dp:Is Tryz.prog 16 b16:=mkI Tryz.func16
def b17:F2:=(F2.mk 15 [RV.cn 4 4,RV.t 5] (ac [cO 3 (box (t 1)),cO 4 (alloc (AV.agg [aP,aP,aP,AV.esl])),cO 5 (mov (cN 0))] ((mixS 1 [aa 6 0,aE 7 3,aE 8 3,aL 9 35 [t 8],cO 10 (mkfn 43 [t 3]),cO 11 (bld [aP,aP,aP,aP,AV.nilf,AV.nilf,AV.nilf] [(0,1,t 6),(1,1,t 7),(2,1,t 9),(3,1,cN ((-1))),(5,1,t 10),(6,1,c (AV.func 47 []))]),aL 12 34 [t 11],bF 13 12 0,bF 14 12 1,a8 4 4 13,aa 5 14] [(0,0),(1,0),(2,0),(4,0),(3,1),(5,0),(6,2),(7,0),(8,0),(9,2),(10,0)]).seq ret)))
theorem Dz:Is Tryz.prog 17 b17:=mkI Tryz.func17
def b18:F2:=(F2.mk 12 [RV.cn 2 4,RV.t 3] (ac [cO 2 (alloc (AV.agg [aP,aP,aP,AV.esl])),cO 3 (mov (cN 0))] (ac [cO 4 (alloc AV.nilf),Op2.mk none none (Ins.st 1 (t 4) (cF 48))] (ac [aa 5 0,cO 6 (mkfn 49 [t 4]),cO 7 (mkfn 50 [t 4]),cO 8 (bld [aP,aP,aP,aP,AV.nilf,AV.nilf,AV.nilf] [(0,1,t 5),(1,1,cN ((2))),(2,1,cN ((2))),(3,1,cN ((-1))),(5,1,t 6),(6,1,t 7)]),aL 9 34 [t 8],bF 10 9 0,bF 11 9 1,a8 4 2 10,aa 3 11] ret))))
theorem D4:Is Tryz.prog 18 b18:=mkI Tryz.func18
def b19:F2:=(F2.mk 27 [RV.t 4] (ac [cO 4 (mov bf)] ((ac [aa 6 0,cm 7 6,aa 8 1,cm 9 8,aF 10 .neq 7 9] (aA 10 (ac [cO 4 (mov bf)] ret) skip)).seq ((ac [cO 5 (mov (cN 0))] (block 0 ((ac [aa 11 5,aa 12 0,cm 13 12,aF 14 .lss 11 13] (aA 14 skip (exit 0))).seq ((block 1 ((mixS 1 [aa 17 0,aa 18 5,cO 19 (ixaS 1 (t 17) (t 18)),aE 20 19,aa 21 1,aa 22 5,cO 23 (ixaS 1 (t 21) (t 22)),aE 24 23,aL 25 31 [t 20,t 24],aq 26 .neq 25 0] [(0,0),(1,0),(2,0),(3,0),(4,0),(5,0),(6,0),(7,0),(8,2),(9,0)]).seq (aA 26 (ac [cO 4 (mov bf)] ret) skip))).seq (ops 0 [aa 15 5,aq 16 .add 15 1,aa 5 16]))).loop)).seq (ac [cO 4 (mov bV)] ret)))))
theorem BL:Is Tryz.prog 19 b19:=mkI Tryz.func19
def b20:F2:=(F2.mk 9 [RV.t 2] (ac [cO 2 (mov (c AV.esl))] (ac [aa 4 0,aL 5 51 [t 4],aa 3 5] (ac [aa 6 3,aL 7 52 [t 6]] (ac [aa 8 3,aa 2 8] ret)))))
theorem DY:Is Tryz.prog 20 b20:=mkI Tryz.func20
def b21:F2:=(F2.mk 4 [RV.t 2] (ac [cO 1 (box (t 0)),cO 2 (mov (c AV.nilf))] (ac [cO 3 (mkfn 53 [t 1]),aa 2 3] ret)))
theorem CQ:Is Tryz.prog 21 b21:=mkI Tryz.func21
def b22:F2:=(F2.mk 3 [RV.t 0] (ac [cO 0 (mov (c AV.nilm))] (ac [cO 1 (mkm none),Op2.mk none none (mput (one str) (t 1) (c (AV.str (ByteArray.mk (Array.mk [97,112,112,114,111,120,105,109,97,116,101])))) (cF 54)),Op2.mk none none (mput (one str) (t 1) (c (AV.str (ByteArray.mk (Array.mk [99,111,109,109,105,116])))) (cF 55)),Op2.mk none none (mput (one str) (t 1) (c (AV.str (ByteArray.mk (Array.mk [99,111,110,115,101,110,115,117,115])))) (cF 56)),Op2.mk none none (mput (one str) (t 1) (c (AV.str (ByteArray.mk (Array.mk [99,114,117,115,97,100,101,114])))) (cF 57)),Op2.mk none none (mput (one str) (t 1) (c (AV.str (ByteArray.mk (Array.mk [108,101,97,100,101,114])))) (cF 58)),Op2.mk none none (mput (one str) (t 1) (c (AV.str (ByteArray.mk (Array.mk [114,101,110,97,109,105,110,103])))) (cF 16)),Op2.mk none none (mput (one str) (t 1) (c (AV.str (ByteArray.mk (Array.mk [115,101,116])))) (cF 60)),aa 2 1,aa 0 2] ret)))
theorem DD:Is Tryz.prog 22 b22:=mkI Tryz.func22
def b23:F2:=(F2.mk 14 [RV.t 6] (ac [cO 5 (box (t 2)),cO 6 (mov (cN 0))] ((ac [aa 7 0,cm 8 7,aa 9 1,aF 10 .neq 8 9] (aA 10 (ac [cO 6 (mov (cN 15))] ret) skip)).seq ((ac [aa 11 0,cO 12 (mkfn 62 [t 5]),aL 13 61 [t 11,t 12]] (aA 13 (ac [cO 6 (mov (cN 2))] ret) skip)).seq (ac [cO 6 (mov (cN 0))] ret)))))
theorem Ch:Is Tryz.prog 23 b23:=mkI Tryz.func23
def b24:F2:=(F2.mk 36 [RV.t 4] (ac [cO 4 (mov (cN 0))] ((ac [aa 9 0,cm 10 9,cO 11 (mov (cN 0))] (block 0 (ac [aF 12 .lss 11 10] ((aA 12 skip (exit 0)).seq ((block 1 (ac [aa 13 11,cO 14 (ixaS 1 (t 9) (t 11)),aE 15 14,aa 5 13,aa 6 15] ((ac [aa 16 5,aa 17 1,cm 18 17,aF 19 .geq 16 18] (aA 19 (ac [cO 4 (mov (cN 1))] ret) skip)).seq (ac [aa 20 1,aa 21 5,cO 22 (ixaS 1 (t 20) (t 21)),aE 23 22,aa 7 23] (ac [aa 24 6,aa 25 7,aL 26 63 [t 24,t 25],aa 8 26] (ac [aa 27 8,aq 28 .neq 27 0] (aA 28 (ac [aa 29 8,aa 4 29] ret) skip))))))).seq (ops 0 [aq 30 .add 11 1,aa 11 30])))).loop)).seq ((ac [aa 31 0,cm 32 31,aa 33 1,cm 34 33,aF 35 .lss 32 34] (aA 35 (ac [cO 4 (mov (cN ((-1))))] ret) skip)).seq (ac [cO 4 (mov (cN 0))] ret)))))
theorem CH:Is Tryz.prog 24 b24:=mkI Tryz.func24
def b25:F2:=(F2.mk 60 [RV.t 4] (ac [cO 2 (box (t 0)),cO 3 (box (t 1)),cO 4 (mov (cN 0))] ((ac [bK 10 1 3,aE 11 10,cm 12 11,aq 13 .lss 12 1,aa 14 13,aN 15 14 (fa 1 (t 3)),aN 16 14 (cD 15),aN 17 14 (lenS (t 16)),aN 18 14 (cB .gtr (t 17) (cN 1024)),cO 19 (pick (t 14) bV (t 18))] (aA 19 (ac [cO 4 (mov (cN 5))] ret) skip)).seq ((ac [bK 20 1 3,aE 21 20,cm 22 21,cO 23 (mov (cN 0))] (block 0 (ac [aF 24 .lss 23 22] ((aA 24 skip (exit 0)).seq ((block 1 (ac [aa 25 23,cO 26 (ixaS 1 (t 21) (t 23)),aE 27 26,aa 5 25,aa 6 27] ((ac [aa 28 6,bK 29 0 2,aE 30 29,bK 31 2 2,aE 32 31,aL 33 23 [t 28,t 30,t 32],aa 7 33] (ac [aa 34 7,aq 35 .neq 34 0] (aA 35 (ac [aa 36 7,aa 4 36] ret) skip))).seq (ac [bK 37 1 3,aE 38 37,aa 39 5,aL 40 64 [t 38,t 39]] (aA 40 (ac [cO 4 (mov (cN 14))] ret) skip))))).seq (ops 0 [aq 41 .add 23 1,aa 23 41])))).loop)).seq ((ac [bK 42 2 3,aE 43 42,cm 44 43,cO 45 (mov (cN 0))] (block 2 (ac [aF 46 .lss 45 44] ((aA 46 skip (exit 2)).seq ((block 3 (ac [aa 47 45,cO 48 (ixaS 1 (t 43) (t 45)),aE 49 48,aa 8 47,aa 9 49] ((ac [bK 50 1 3,aE 51 50,aa 52 9,aL 53 65 [t 51,t 52],cO 54 (un UnOp.not (t 53))] (aA 54 (ac [cO 4 (mov (cN 6))] ret) skip)).seq (ac [bK 55 2 3,aE 56 55,aa 57 8,aL 58 64 [t 56,t 57]] (aA 58 (ac [cO 4 (mov (cN 14))] ret) skip))))).seq (ops 0 [aq 59 .add 45 1,aa 45 59])))).loop)).seq (ac [cO 4 (mov (cN 0))] ret))))))
theorem B2:Is Tryz.prog 25 b25:=mkI Tryz.func25
def b26:F2:=(F2.mk 7 [RV.t 2] (ac [cO 1 (box (t 0)),cO 2 (mov bf)] (ac [aE 3 1,cO 4 (mkfn 66 [t 1]),aL 5 61 [t 3,t 4],cO 6 (un UnOp.not (t 5)),aa 2 6] ret)))
theorem CW:Is Tryz.prog 26 b26:=mkI Tryz.func26
def b27:F2:=(F2.mk 33 [RV.t 2] (ac [cO 2 (mov (cN 0))] ((ac [aa 7 0,cm 8 7,aL 9 67 [t 8],aa 3 9] (ac [aa 10 3,aq 11 .neq 10 0] (aA 11 (ac [aa 12 3,aa 2 12] ret) skip))).seq (ac [cO 4 (alloc (AV.agg [AV.bool false,AV.bool false,AV.bool false,AV.bool false,AV.bool false]))] ((ac [aa 13 0,cm 14 13,cO 15 (mov (cN 0))] (block 0 (ac [aF 16 .lss 15 14] ((aA 16 skip (exit 0)).seq ((block 1 (ac [cO 17 (ixaS 1 (t 13) (t 15)),aE 18 17,aa 6 18] ((ac [aa 19 6,aq 20 .lss 19 0,aa 21 20,aN 22 21 (cM 6),aN 23 21 (cM 0),aN 24 21 (lenS (t 23)),aN 25 21 (cB .geq (t 22) (t 24)),cO 26 (pick (t 21) bV (t 25))] (aA 26 (ac [cO 2 (mov (cN 2))] ret) skip)).seq ((ac [aa 27 6,cO 28 (ixaA 5 1 (t 4) (t 27)),aE 29 28] (aA 29 (ac [cO 2 (mov (cN 7))] ret) skip)).seq (ops 0 [aa 30 6,cO 31 (ixaA 5 1 (t 4) (t 30)),Op2.mk none none (Ins.st 1 (t 31) bV)]))))).seq (ops 0 [aq 32 .add 15 1,aa 15 32])))).loop)).seq (ac [cO 2 (mov (cN 0))] ret))))))
theorem CU:Is Tryz.prog 27 b27:=mkI Tryz.func27
def b28:F2:=(F2.mk 30 [RV.t 4] (ac [cO 4 (mov (c AV.esl))] (ac [cO 5 (mov (c AV.esl))] ((ac [aa 10 0,cm 11 10,cO 12 (mov (cN 0))] (block 0 (ac [aF 13 .lss 12 11] ((aA 13 skip (exit 0)).seq ((block 1 (ac [cO 14 (ixaS 1 (t 10) (t 12)),aE 15 14,aa 7 15] (ac [aa 17 1,aa 18 7,aL 19 68 [t 17,t 18],aa 16 19,bF 20 16 0,bF 21 16 1,aa 8 20,aa 9 21] (ops 0 [aa 22 5,aa 23 8,cO 24 (bldS 1 1 [AV.esl] [(0,1,t 23)]),cO 25 (app 1 24 (t 22) (t 24)),aa 5 25])))).seq (ops 0 [aq 26 .add 12 1,aa 12 26])))).loop)).seq (ac [aa 27 5,aL 28 69 ([t 27,c (AV.func 24 [])])] (ac [aa 29 5,aa 4 29] ret))))))
theorem CN:Is Tryz.prog 28 b28:=mkI Tryz.func28
def b29:F2:=(F2.mk 14 [] (ac [aa 5 0,cm 6 5,aa 4 6] (ops 0 [aa 7 0,aa 8 4,aa 9 4,cO 10 (conv IntKind.u64 (t 9)),aL 11 71 [t 10],aa 12 1,aL 13 70 ([t 7,cN ((0)),t 8,t 11,t 12])])))
theorem Dc:Is Tryz.prog 29 b29:=mkI Tryz.func29
def b30:F2:=(F2.mk 10 [RV.t 4] (ac [cO 2 (box (t 0)),cO 3 (box (t 1)),cO 4 (mov (cN 0))] (ac [bK 5 0 2,aE 6 5,bK 7 0 3,aE 8 7,aL 9 24 [t 6,t 8],aa 4 9] ret)))
theorem DH:Is Tryz.prog 30 b30:=mkI Tryz.func30
def b31:F2:=(F2.mk 46 [RV.t 4] (ac [cO 4 (mov (cN 0))] ((ac [cO 5 (mov (cN 0))] (block 0 ((ac [aa 6 5,aa 7 0,cm 8 7,aF 9 .lss 6 8,aa 10 9,ah 11 10 (cM 5),ah 12 10 (cM 1),ah 13 10 (lenS (t 12)),ah 14 10 (cB .lss (t 11) (t 13)),cO 15 (pick (t 10) (t 14) bf)] (aA 15 skip (exit 0))).seq ((block 1 (((ops 1 [aa 18 0,aa 19 5,cO 20 (ixaS 1 (t 18) (t 19)),aE 21 20,aa 22 1,aa 23 5,cO 24 (ixaS 1 (t 22) (t 23)),aE 25 24,aF 26 .lss 21 25]).seq (aA 26 (ac [cO 4 (mov (cN ((-1))))] ret) skip)).seq ((ops 1 [aa 27 0,aa 28 5,cO 29 (ixaS 1 (t 27) (t 28)),aE 30 29,aa 31 1,aa 32 5,cO 33 (ixaS 1 (t 31) (t 32)),aE 34 33,aF 35 .gtr 30 34]).seq (aA 35 (ac [cO 4 (mov (cN 1))] ret) skip)))).seq (ops 0 [aa 16 5,aq 17 .add 16 1,aa 5 17]))).loop)).seq ((ac [aa 36 0,cm 37 36,aa 38 1,cm 39 38,aF 40 .lss 37 39] (aA 40 (ac [cO 4 (mov (cN ((-1))))] ret) skip)).seq ((ac [aa 41 0,cm 42 41,aa 43 1,cm 44 43,aF 45 .gtr 42 44] (aA 45 (ac [cO 4 (mov (cN 1))] ret) skip)).seq (ac [cO 4 (mov (cN 0))] ret))))))
theorem Cz:Is Tryz.prog 31 b31:=mkI Tryz.func31
def b32:F2:=(F2.mk 23 [RV.t 6] (ac [cO 6 (mov (cN 0))] (ac [cO 7 (mov (cN 1))] ((ac [cO 8 (mov (cN 0))] (block 0 ((ac [aa 9 8,aa 10 1,aF 11 .lss 9 10,aa 12 11,ah 13 12 (cM 7),ah 14 12 (cM 2),ah 15 12 (cB .leq (t 13) (t 14)),cO 16 (pick (t 12) (t 15) bf)] (aA 16 skip (exit 0))).seq ((block 1 (ops 0 [aa 19 7,aa 20 0,aF 21 .mul 19 20,aa 7 21])).seq (ops 0 [aa 17 8,aq 18 .add 17 1,aa 8 18]))).loop)).seq (ac [aa 22 7,aa 6 22] ret)))))
theorem CZ:Is Tryz.prog 32 b32:=mkI Tryz.func32
def b33:F2:=(F2.mk 13 [RV.cn 6 7] (ac [cO 5 (box (t 2)),cO 6 (alloc (AV.agg [aP,aP,aP,aP,AV.nilf,AV.nilf,AV.nilf]))] (ac [aa 7 0,aa 8 1,aa 9 1,aE 10 5,cO 11 (mkfn 72 [t 5]),cO 12 (bld [aP,aP,aP,aP,AV.nilf,AV.nilf,AV.nilf] [(0,1,t 7),(1,1,t 8),(2,1,t 9),(3,1,t 10),(5,1,t 11)]),a8 7 6 12] ret)))
theorem D6:Is Tryz.prog 33 b33:=mkI Tryz.func33
def b34:F2:=(F2.mk 141 [RV.cn 2 4,RV.c1 3] (ac [cO 1 (box (t 0)),cO 2 (alloc (AV.agg [aP,aP,aP,AV.esl])),cO 3 (alloc (aP))] ((block 0 (ac [bK 10 0 1,aE 11 10,aL 12 74 ([t 11,cN ((1)),cN ((5))]),cO 13 (un UnOp.not (t 12)),aa 14 13,aN 15 14 (fa 1 (t 1)),aN 16 14 (cD 15),aN 17 14 (call (cF 74) [t 16,cN ((1)),cN ((8))]),aN 18 14 (un UnOp.not (t 17)),cO 19 (pick (t 14) bV (t 18)),aa 20 19,aN 21 20 (fa 2 (t 1)),aN 22 20 (cD 21),aN 23 20 (call (cF 74) [t 22,cN ((1)),cN ((8))]),aN 24 20 (un UnOp.not (t 23)),cO 25 (pick (t 20) bV (t 24)),aa 9 25] (aA 9 (ac [cO 26 (bld [aP,aP,aP,AV.esl] []),a8 4 2 26,Op2.mk none none (Ins.st 1 (t 3) (cN 2))] ret) (ac [bK 28 3 1,aE 29 28,cO 30 (cB .neq (t 29) (cN ((-1)))),aa 31 30,ah 32 31 (fa 3 (t 1)),ah 33 31 (cD 32),ah 34 31 (fa 0 (t 1)),ah 35 31 (cD 34),ah 36 31 (call (cF 74) [t 33,cN ((1)),t 35]),ah 37 31 (un UnOp.not (t 36)),cO 38 (pick (t 31) (t 37) bf),aa 27 38] (aA 27 (ac [cO 39 (bld [aP,aP,aP,AV.esl] []),a8 4 2 39,Op2.mk none none (Ins.st 1 (t 3) (cN 2))] ret) skip))))).seq ((ac [bK 40 0 1,aE 41 40,bK 42 1 1,aE 43 42,bK 44 4 1,aE 45 44,aL 46 75 ([t 41,t 43,t 45,cN ((1024))]),aa 4 46] (block 1 (ac [aa 48 4,aq 49 .eql 48 0,aa 47 49] (aA 47 (ac [cO 50 (bld [aP,aP,aP,AV.esl] []),a8 4 2 50,Op2.mk none none (Ins.st 1 (t 3) (cN 16))] ret) (ac [bK 52 4 1,aE 53 52,cO 54 (bin BinOp.neq false true (t 53) (c AV.nilf)),aa 55 54,ah 56 55 (fa 2 (t 1)),ah 57 55 (cD 56),ah 58 55 (fa 0 (t 1)),ah 59 55 (cD 58),ah 60 55 (cB .lss (t 57) (t 59)),cO 61 (pick (t 55) (t 60) bf),aa 51 61] (aA 51 (ac [cO 62 (bld [aP,aP,aP,AV.esl] []),a8 4 2 62,Op2.mk none none (Ins.st 1 (t 3) (cN 16))] ret) (ac [aa 64 4,aq 65 .gtr 64 1024,aa 63 65] (aA 63 (ac [cO 66 (bld [aP,aP,aP,AV.esl] []),a8 4 2 66,Op2.mk none none (Ins.st 1 (t 3) (cN 17))] ret) skip)))))))).seq (ac [bK 67 0 1,aE 68 67,bK 69 1 1,aE 70 69,bK 71 2 1,aE 72 71,cO 73 (bld [aP,aP,aP,AV.esl] [(0,1,t 68),(1,1,t 70),(2,1,t 72)]),cO 5 (alloc (AV.agg [aP,aP,aP,AV.esl])),a8 4 5 73] ((ac [bK 74 0 1,aE 75 74,bK 76 1 1,aE 77 76,aL 78 76 [t 75,t 77]] (block 2 (rangeF (t 78) [79] (ops 0 [cO 6 (alloc AV.esl),a8 1 6 79]) (block 3 ((ac [bK 80 4 1,aE 81 80,cO 82 (bin BinOp.neq false true (t 81) (c AV.nilf)),aa 83 82,ah 84 83 (fa 4 (t 1)),ah 85 83 (cD 84),ah 86 83 (cD 6),ah 87 83 (call (t 85) [t 86]),ah 88 83 (un UnOp.not (t 87)),cO 89 (pick (t 83) (t 88) bf)] (aA 89 (exit 3) skip)).seq (ac [aE 90 6,aL 91 45 [t 90],cO 92 (bld [AV.esl,AV.esl,AV.esl] [(0,1,t 91)]),cO 7 (alloc (AV.agg [AV.esl,AV.esl,AV.esl])),a8 3 7 92] ((ac [bK 93 0 1,aE 94 93,bK 95 2 1,aE 96 95,aL 97 76 [t 94,t 96]] (block 4 (rangeF (t 97) [98] (ops 0 [aa 8 98]) (block 5 ((ac [bK 99 5 1,aE 100 99,aE 101 6,aa 102 8,cO 103 (call (t 100) [t 101,t 102]),cO 104 (un UnOp.not (t 103))] (aA 104 (exit 5) skip)).seq ((ac [bK 105 1 7,aE 106 105,cm 107 106,aq 108 .eql 107 1024] (aA 108 (ac [cO 109 (bld [aP,aP,aP,AV.esl] []),a8 4 2 109,Op2.mk none none (Ins.st 1 (t 3) (cN 17))] ret) skip)).seq ((mixS 1 [bK 110 1 7,aE 111 110,aa 112 8,aL 113 45 [t 112],cO 114 (bldS 1 1 [AV.esl] [(0,1,t 113)]),cO 115 (app 1 24 (t 111) (t 114)),bK 116 1 7,a8 1 116 115] [(0,0),(1,0),(2,0),(3,1),(4,1),(5,2),(6,0),(7,2)]).seq (ac [bK 117 6 1,aE 118 117,cO 119 (bin BinOp.neq false true (t 118) (c AV.nilf)),aa 120 119,ah 121 120 (fa 6 (t 1)),ah 122 120 (cD 121),ah 123 120 (cD 6),ah 124 120 (cM 8),ah 125 120 (call (t 122) [t 123,t 124]),cO 126 (pick (t 120) (t 125) bf)] (aA 126 (mixS 1 [bK 127 2 7,aE 128 127,aa 129 8,aL 130 45 [t 129],cO 131 (bldS 1 1 [AV.esl] [(0,1,t 130)]),cO 132 (app 1 24 (t 128) (t 131)),bK 133 2 7,a8 1 133 132] [(0,0),(1,0),(2,0),(3,1),(4,1),(5,2),(6,0),(7,2)]) skip))))))))).seq (ops 0 [bK 134 3 5,aE 135 134,ca 136 3 7,cO 137 (bldS 3 1 [AV.esl,AV.esl,AV.esl] [(0,3,t 136)]),cO 138 (app 3 72 (t 135) (t 137)),bK 139 3 5,a8 1 139 138])))))))).seq (ac [ca 140 4 5,a8 4 2 140,Op2.mk none none (Ins.st 1 (t 3) (cN 0))] ret)))))))
theorem Br:Is Tryz.prog 34 b34:=mkI Tryz.func34
def b35:F2:=(F2.mk 8 [RV.t 2] (ac [cO 2 (mov (cN 0))] ((ac [aa 3 0,aL 4 74 ([t 3,cN ((0)),cN ((8))]),cO 5 (un UnOp.not (t 4))] (aA 5 (ac [cO 2 (mov (cN 9))] ret) skip)).seq (ac [aa 6 0,aq 7 .add 6 1,aa 2 7] ret))))
theorem Dj:Is Tryz.prog 35 b35:=mkI Tryz.func35
def b36:F2:=(F2.mk 22 [RV.t 5] (ac [cO 5 (mov bf)] ((ac [aa 6 0,aL 7 37 [t 6],aq 8 .eql 7 1] (aA 8 ((mixS 1 [aa 9 1,aa 10 0,cO 11 (ixaS 1 (t 10) (cN 0)),aE 12 11,aE 13 2,aF 14 .mul 12 13,aL 15 38 [t 9,t 14],aa 5 15] [(0,0),(1,0),(2,0),(3,0),(4,0),(5,0),(6,2),(7,0)]).seq ret) skip)).seq (ac [aa 16 1,aL 17 39 [t 16],aa 18 1,aL 19 40 [t 18],aF 20 .sub 17 19,aq 21 .leq 20 1,aa 5 21] ret))))
theorem CS:Is Tryz.prog 36 b36:=mkI Tryz.func36
def b37:F2:=(F2.mk 18 [RV.t 2] (ac [cO 2 (mov (cN 0))] (ac [cO 6 (mkm none),aa 3 6] ((ac [aa 7 0,cm 8 7,cO 9 (mov (cN 0))] (block 0 (ac [aF 10 .lss 9 8] ((aA 10 skip (exit 0)).seq ((block 1 (ac [cO 11 (ixaS 1 (t 7) (t 9)),aE 12 11,aa 5 12] (ops 0 [aa 13 3,aa 14 5,Op2.mk none none (mput (one int) (t 13) (t 14) bV)]))).seq (ops 0 [aq 15 .add 9 1,aa 9 15])))).loop)).seq (ac [aa 16 3,cO 17 (mlen (t 16)),aa 2 17] ret)))))
theorem Dl:Is Tryz.prog 37 b37:=mkI Tryz.func37
def b38:F2:=(F2.mk 15 [RV.t 4] (ac [cO 4 (mov bf)] (ac [aa 5 0,aL 6 37 [t 5],aq 7 .eql 6 1,aa 8 7,ah 9 8 (cM 0),ah 10 8 (ixaS 1 (t 9) (cN 0)),ah 11 8 (cD 10),ah 12 8 (cM 1),ah 13 8 (cB .eql (t 11) (t 12)),cO 14 (pick (t 8) (t 13) bf),aa 4 14] ret)))
theorem CR:Is Tryz.prog 38 b38:=mkI Tryz.func38
def b39:F2:=(F2.mk 25 [RV.t 2] (ac [cO 2 (mov (cN 0))] ((ac [aa 5 0,cm 6 5,aq 7 .lss 6 1] (aA 7 (ops 0 [cO 8 dead,Op2.mk none none dead]) skip)).seq (ac [aa 9 0,cO 10 (ixaS 1 (t 9) (cN 0)),aE 11 10,aa 3 11] ((ac [cO 4 (mov (cN 1))] (block 0 ((ac [aa 12 4,aa 13 0,cm 14 13,aF 15 .lss 12 14] (aA 15 skip (exit 0))).seq ((block 1 (ops 0 [aa 18 3,aa 19 0,aa 20 4,cO 21 (ixaS 1 (t 19) (t 20)),aE 22 21,cO 23 (mx (t 18) [t 22]),aa 3 23])).seq (ops 0 [aa 16 4,aq 17 .add 16 1,aa 4 17]))).loop)).seq (ac [aa 24 3,aa 2 24] ret))))))
theorem Eb:Is Tryz.prog 39 b39:=mkI Tryz.func39
def b40:F2:=(F2.mk 25 [RV.t 2] (ac [cO 2 (mov (cN 0))] ((ac [aa 5 0,cm 6 5,aq 7 .lss 6 1] (aA 7 (ops 0 [cO 8 dead,Op2.mk none none dead]) skip)).seq (ac [aa 9 0,cO 10 (ixaS 1 (t 9) (cN 0)),aE 11 10,aa 3 11] ((ac [cO 4 (mov (cN 1))] (block 0 ((ac [aa 12 4,aa 13 0,cm 14 13,aF 15 .lss 12 14] (aA 15 skip (exit 0))).seq ((block 1 (ops 0 [aa 18 3,aa 19 0,aa 20 4,cO 21 (ixaS 1 (t 19) (t 20)),aE 22 21,cO 23 (mn (t 18) [t 22]),aa 3 23])).seq (ops 0 [aa 16 4,aq 17 .add 16 1,aa 4 17]))).loop)).seq (ac [aa 24 3,aa 2 24] ret))))))
theorem Ds:Is Tryz.prog 40 b40:=mkI Tryz.func40
def b41:F2:=(F2.mk 8 [RV.t 2] (ac [cO 2 (mov bf)] (ac [aa 3 0,aL 4 37 [t 3],aa 5 0,cm 6 5,aF 7 .eql 4 6,aa 2 7] ret)))
theorem DQ:Is Tryz.prog 41 b41:=mkI Tryz.func41
def b42:F2:=(F2.mk 10 [RV.t 4] (ac [cO 4 (mov bf)] (ac [aa 5 1,aL 6 37 [t 5],aa 7 1,cm 8 7,aF 9 .eql 6 8,aa 4 9] ret)))
theorem D1:Is Tryz.prog 42 b42:=mkI Tryz.func42
def b43:F2:=(F2.mk 14 [RV.t 5] (ac [cO 5 (mov bf)] (ac [aa 7 1,aL 8 45 [t 7],cO 9 (mkfn 46 [t 2]),aL 10 44 [t 8,t 9],aa 6 10] (ac [aa 11 6,aL 12 37 [t 11],aq 13 .leq 12 1,aa 5 13] ret))))
theorem Db:Is Tryz.prog 43 b43:=mkI Tryz.func43
def b44:F2:=(F2.mk 42 [RV.t 4] (ac [cO 4 (mov (c AV.esl))] (ac [aa 8 0,aa 9 1,aL 10 77 [t 8,t 9],aa 5 10] ((ac [aa 11 5,cO 12 (cB .eql (t 11) (cN ((-1))))] (aA 12 (ac [aa 13 0,aa 4 13] ret) skip)).seq ((ac [aa 14 5,aq 15 .add 14 1,aa 6 15] (block 0 ((ac [aa 16 6,aa 17 0,cm 18 17,aF 19 .lss 16 18] (aA 19 skip (exit 0))).seq ((block 1 (ac [aa 22 0,aa 23 6,cO 24 (ixaS 1 (t 22) (t 23)),aE 25 24,aa 7 25] (ac [aa 26 1,aa 27 7,cO 28 (call (t 26) [t 27]),cO 29 (un UnOp.not (t 28))] (aA 29 (ac [aa 30 0,aa 31 5,aa 32 7,cO 33 (ixaS 1 (t 30) (t 31)),a8 1 33 32] (ops 0 [aa 34 5,aq 35 .add 34 1,aa 5 35])) skip)))).seq (ops 0 [aa 20 6,aq 21 .add 20 1,aa 6 21]))).loop)).seq (ac [aa 36 0,aa 37 5,cO 38 (sls 1 (t 36) (some (t 37)) none none),Op2.mk none none (clr 1 (aP) (t 38))] (ac [aa 39 0,aa 40 5,cO 41 (sls 1 (t 39) none (some (t 40)) none),aa 4 41] ret)))))))
theorem Df:Is Tryz.prog 44 b44:=mkI Tryz.func44
def b45:F2:=(F2.mk 8 [RV.t 2] (ac [cO 2 (mov (c AV.esl))] ((ac [aa 3 0,cO 4 (snil false (t 3))] (aA 4 (ac [cO 2 (mov (c AV.esl))] ret) skip)).seq (ac [cO 5 (bldS 1 0 [aP] []),aa 6 0,cO 7 (app 1 8 (t 5) (t 6)),aa 2 7] ret))))
theorem Ak:Is Tryz.prog 45 b45:=mkI Tryz.func45
def b46:F2:=(F2.mk 7 [RV.t 3] (ac [cO 3 (mov bf)] (ac [aa 4 0,aE 5 1,aF 6 .eql 4 5,aa 3 6] ret)))
theorem CX:Is Tryz.prog 46 b46:=mkI Tryz.func46
def b47:F2:=(F2.mk 10 [RV.t 4] (ac [cO 4 (mov bf)] (ac [aa 5 1,aa 6 0,cO 7 (ixaS 1 (t 6) (cN 0)),aE 8 7,aL 9 38 [t 5,t 8],aa 4 9] ret)))
theorem D7:Is Tryz.prog 47 b47:=mkI Tryz.func47
def b48:F2:=(F2.mk 5 [RV.t 2] (ac [cO 2 (mov (cN 0))] (ac [aa 3 0,aL 4 40 [t 3],aa 2 4] ret)))
theorem Ec:Is Tryz.prog 48 b48:=mkI Tryz.func48
def b49:F2:=(F2.mk 18 [RV.t 5] (ac [cO 5 (mov bf)] (ac [aa 6 1,aL 7 38 ([t 6,cN ((0))]),aa 8 7,aN 9 8 (cM 1),aN 10 8 (call (cF 38) [t 9,cN ((1))]),aN 11 8 (cM 10),ah 12 11 (cD 2),ah 13 11 (cM 0),ah 14 11 (call (t 12) [t 13]),ah 15 11 (cB .eql (t 14) (cN 1)),aN 16 8 (pick (t 11) (t 15) bf),cO 17 (pick (t 8) bV (t 16)),aa 5 17] ret)))
theorem DU:Is Tryz.prog 49 b49:=mkI Tryz.func49
def b50:F2:=(F2.mk 11 [RV.t 5] (ac [cO 5 (mov bf)] (ac [aa 6 1,aE 7 2,aa 8 0,cO 9 (call (t 7) [t 8]),aL 10 38 [t 6,t 9],aa 5 10] ret)))
theorem Dy:Is Tryz.prog 50 b50:=mkI Tryz.func50
def b51:F2:=(F2.mk 5 [RV.t 2] (ac [cO 2 (mov (c AV.esl))] (ac [aa 3 0,aL 4 78 [c AV.esl,t 3],aa 2 4] ret)))
theorem CT:Is Tryz.prog 51 b51:=mkI Tryz.func51
def b52:F2:=(F2.mk 11 [] (ac [aa 3 0,cm 4 3,aa 2 4] (ops 0 [aa 5 0,aa 6 2,aa 7 2,cO 8 (conv IntKind.u64 (t 7)),aL 9 71 [t 8],aL 10 79 ([t 5,cN ((0)),t 6,t 9])])))
theorem Ea:Is Tryz.prog 52 b52:=mkI Tryz.func52
def b53:F2:=(F2.mk 14 [] (ac [aE 4 1,cO 5 (mrng (t 4))] (block 0 (ac [cO 6 (mnxt (t 5)),bF 7 6 0] ((aA 7 skip (exit 0)).seq (block 1 (ac [cO 8 (ment (t 5)),bF 9 8 0,aa 3 9] (ac [aa 10 0,aa 11 3,cO 12 (call (t 10) [t 11]),cO 13 (un UnOp.not (t 12))] (aA 13 ret skip)))))).loop)))
theorem D0:Is Tryz.prog 53 b53:=mkI Tryz.func53
def b54:F2:=(F2.mk 13 [RV.cn 6 4,RV.t 7] (ac [cO 6 (alloc (AV.agg [aP,aP,aP,AV.esl])),cO 7 (mov (cN 0))] (ac [aa 8 0,aa 9 1,aL 10 15 [t 8,t 9],bF 11 10 0,bF 12 10 1,a8 4 6 11,aa 7 12] ret)))
theorem DG:Is Tryz.prog 54 b54:=mkI Tryz.func54
def b55:F2:=(F2.mk 12 [RV.cn 6 4,RV.t 7] (ac [cO 6 (alloc (AV.agg [aP,aP,aP,AV.esl])),cO 7 (mov (cN 0))] (ac [aa 8 0,aL 9 18 [t 8],bF 10 9 0,bF 11 9 1,a8 4 6 10,aa 7 11] ret)))
theorem Dh:Is Tryz.prog 55 b55:=mkI Tryz.func55
def b56:F2:=(F2.mk 13 [RV.cn 6 4,RV.t 7] (ac [cO 6 (alloc (AV.agg [aP,aP,aP,AV.esl])),cO 7 (mov (cN 0))] (ac [aa 8 0,aa 9 1,aL 10 14 [t 8,t 9],bF 11 10 0,bF 12 10 1,a8 4 6 11,aa 7 12] ret)))
theorem DZ:Is Tryz.prog 56 b56:=mkI Tryz.func56
def b57:F2:=(F2.mk 13 [RV.cn 6 4,RV.t 7] (ac [cO 6 (alloc (AV.agg [aP,aP,aP,AV.esl])),cO 7 (mov (cN 0))] (ac [aa 8 0,aa 9 1,aL 10 17 [t 8,t 9],bF 11 10 0,bF 12 10 1,a8 4 6 11,aa 7 12] ret)))
theorem DT:Is Tryz.prog 57 b57:=mkI Tryz.func57
def b58:F2:=(F2.mk 12 [RV.cn 6 4,RV.t 7] (ac [cO 6 (alloc (AV.agg [aP,aP,aP,AV.esl])),cO 7 (mov (cN 0))] (ac [aa 8 0,aL 9 59 [t 8],bF 10 9 0,bF 11 9 1,a8 4 6 10,aa 7 11] ret)))
theorem Di:Is Tryz.prog 58 b58:=mkI Tryz.func58
def b59:F2:=(F2.mk 9 [RV.cn 2 4,RV.t 3] (ac [cO 2 (alloc (AV.agg [aP,aP,aP,AV.esl])),cO 3 (mov (cN 0))] (ac [aa 4 0,cO 5 (bld [aP,aP,aP,aP,AV.nilf,AV.nilf,AV.nilf] [(0,1,t 4),(1,1,cN ((1))),(2,1,cN ((2))),(3,1,cN ((-1))),(5,1,c (AV.func 80 []))]),aL 6 34 [t 5],bF 7 6 0,bF 8 6 1,a8 4 2 7,aa 3 8] ret)))
theorem D5:Is Tryz.prog 59 b59:=mkI Tryz.func59
def b60:F2:=(F2.mk 16 [RV.cn 6 4,RV.t 7] (ac [cO 6 (alloc (AV.agg [aP,aP,aP,AV.esl])),cO 7 (mov (cN 0))] (ac [aa 8 0,aa 9 1,aa 10 2,cO 11 (mx (t 10) [cN ((0))]),aL 12 33 [t 8,t 9,t 11],aL 13 34 [t 12],bF 14 13 0,bF 15 13 1,a8 4 6 14,aa 7 15] ret)))
theorem Du:Is Tryz.prog 60 b60:=mkI Tryz.func60
def b61:F2:=(F2.mk 9 [RV.t 4] (ac [cO 4 (mov bf)] (ac [aa 5 0,aa 6 1,aL 7 77 [t 5,t 6],aq 8 .geq 7 0,aa 4 8] ret)))
theorem Bw:Is Tryz.prog 61 b61:=mkI Tryz.func61
def b62:F2:=(F2.mk 11 [RV.t 3] (ac [cO 3 (mov bf)] (ac [aa 4 0,aq 5 .lss 4 0,aa 6 5,aN 7 6 (cM 0),aN 8 6 (cD 1),aN 9 6 (cB .geq (t 7) (t 8)),cO 10 (pick (t 6) bV (t 9)),aa 3 10] ret)))
theorem Bq:Is Tryz.prog 62 b62:=mkI Tryz.func62
def b63:F2:=(F2.mk 20 [RV.t 4] (ac [cO 4 (mov (cN 0))] (ac [aa 7 0,aL 8 81 [t 7],aa 5 8] (ac [aa 9 1,aL 10 81 [t 9],aa 6 10] ((ac [aa 11 5] (aA 11 ((ac [aa 12 6] (aA 12 (ac [cO 4 (mov (cN 0))] ret) skip)).seq (ac [cO 4 (mov (cN ((-1))))] ret)) skip)).seq ((ac [aa 13 6] (aA 13 (ac [cO 4 (mov (cN 1))] ret) skip)).seq ((ac [aa 14 0,aa 15 1,aF 16 .lss 14 15] (aA 16 (ac [cO 4 (mov (cN ((-1))))] ret) skip)).seq ((ac [aa 17 0,aa 18 1,aF 19 .gtr 17 18] (aA 19 (ac [cO 4 (mov (cN 1))] ret) skip)).seq (ac [cO 4 (mov (cN 0))] ret)))))))))
theorem BJ:Is Tryz.prog 63 b63:=mkI Tryz.func63
def b64:F2:=(F2.mk 20 [RV.t 4] (ac [cO 4 (mov bf)] ((mixS 1 [aa 5 1,aq 6 .gtr 5 0,aa 7 6,ah 8 7 (cM 0),ah 9 7 (cM 1),ah 10 7 (cB .sub (t 9) (cN 1)),ah 11 7 (ixaS 1 (t 8) (t 10)),ah 12 7 (cD 11),ah 13 7 (cM 0),ah 14 7 (cM 1),ah 15 7 (ixaS 1 (t 13) (t 14)),ah 16 7 (cD 15),ah 17 7 (call (cF 24) [t 12,t 16]),ah 18 7 (cB .geq (t 17) (cN 0)),cO 19 (pick (t 7) (t 18) bf),aa 4 19] [(0,0),(1,0),(2,0),(3,0),(4,0),(5,0),(6,0),(7,0),(8,0),(9,0),(10,0),(11,0),(12,2),(13,0),(14,0),(15,0)]).seq ret)))
theorem Bi:Is Tryz.prog 64 b64:=mkI Tryz.func64
def b65:F2:=(F2.mk 8 [RV.t 4] (ac [cO 3 (box (t 1)),cO 4 (mov bf)] (ac [aa 5 0,cO 6 (mkfn 83 [t 3]),aL 7 82 [t 5,t 6],aa 4 7] ret)))
theorem Bv:Is Tryz.prog 65 b65:=mkI Tryz.func65
def b66:F2:=(F2.mk 9 [RV.t 3] (ac [cO 3 (mov bf)] (ac [aa 4 0,aE 5 1,cO 6 (ixaS 1 (t 5) (cN 0)),aE 7 6,aF 8 .neq 4 7,aa 3 8] ret)))
theorem D8:Is Tryz.prog 66 b66:=mkI Tryz.func66
def b67:F2:=(F2.mk 9 [RV.t 2] (ac [cO 2 (mov (cN 0))] ((ac [aa 3 0,aq 4 .lss 3 1,aa 5 4,aN 6 5 (cM 0),aN 7 5 (cB .gtr (t 6) (cN 5)),cO 8 (pick (t 5) bV (t 7))] (aA 8 (ac [cO 2 (mov (cN 2))] ret) skip)).seq (ac [cO 2 (mov (cN 0))] ret))))
theorem D2:Is Tryz.prog 67 b67:=mkI Tryz.func67
def b68:F2:=(F2.mk 39 [RV.t 4,RV.t 5] (ac [cO 4 (mov (c AV.esl)),cO 5 (mov (cN 0))] ((ac [aa 10 0,aL 11 27 [t 10],aa 6 11] (ac [aa 12 6,aq 13 .neq 12 0] (aA 13 (ac [aa 14 6,cO 4 (mov (c AV.esl)),aa 5 14] ret) skip))).seq ((ac [aa 15 1,cm 16 15,aa 17 0,cm 18 17,aF 19 .neq 16 18] (aA 19 (ac [cO 4 (mov (c AV.esl)),cO 5 (mov (cN 15))] ret) skip)).seq (ac [aa 20 1,cm 21 20,cO 22 (mks 1 8 [aP] (t 21) (t 21)),aa 7 22] ((ac [aa 23 0,cm 24 23,cO 25 (mov (cN 0))] (block 0 (ac [aF 26 .lss 25 24] ((aA 26 skip (exit 0)).seq ((block 1 (ac [aa 27 25,cO 28 (ixaS 1 (t 23) (t 25)),aE 29 28,aa 8 27,aa 9 29] (ops 0 [aa 30 7,aa 31 9,aa 32 1,aa 33 8,cO 34 (ixaS 1 (t 32) (t 33)),aE 35 34,cO 36 (ixaS 1 (t 30) (t 31)),a8 1 36 35]))).seq (ops 0 [aq 37 .add 25 1,aa 25 37])))).loop)).seq (ac [aa 38 7,aa 4 38,cO 5 (mov (cN 0))] ret)))))))
theorem DL:Is Tryz.prog 68 b68:=mkI Tryz.func68
def b69:F2:=(F2.mk 14 [] (ac [aa 5 0,cm 6 5,aa 4 6] (ops 0 [aa 7 0,aa 8 4,aa 9 4,cO 10 (conv IntKind.u64 (t 9)),aL 11 71 [t 10],aa 12 1,aL 13 85 ([t 7,cN ((0)),t 8,t 11,t 12])])))
theorem Ct:Is Tryz.prog 69 b69:=mkI Tryz.func69
def b70:F2:=(F2.mk 148 [] (ac [cO 10 (mov bV)] (ac [cO 11 (mov bV)] (block 0 (block 1 (ac [aa 21 2,aa 22 1,aF 23 .sub 21 22,aa 12 23] ((ac [aa 24 12,aq 25 .leq 24 12] (aA 25 (ac [aa 26 0,aa 27 1,aa 28 2,aa 29 4,aL 30 86 [t 26,t 27,t 28,t 29]] ret) skip)).seq ((ac [aa 31 3,aq 32 .eql 31 0] (aA 32 (ac [aa 33 0,aa 34 1,aa 35 2,aa 36 4,aL 37 87 [t 33,t 34,t 35,t 36]] ret) skip)).seq ((ac [aa 38 10,cO 39 (un UnOp.not (t 38))] (aA 39 (ac [aa 40 0,aa 41 1,aa 42 2,aa 43 4,aL 44 88 [t 40,t 41,t 42,t 43]] (ops 0 [aa 45 3,aq 46 .sub 45 1,aa 3 46])) skip)).seq (ac [aa 48 0,aa 49 1,aa 50 2,aa 51 4,aL 52 89 [t 48,t 49,t 50,t 51],aa 47 52,bF 53 47 0,bF 54 47 1,aa 13 53,aa 14 54] ((ac [aa 55 14,aq 56 .eql 55 2] (aA 56 (ac [aa 57 0,aa 58 1,aa 59 2,aa 60 4,aL 61 90 [t 57,t 58,t 59,t 60]] (ac [aa 62 2,aq 63 .sub 62 1,aa 64 13,aa 65 1,aF 66 .sub 64 65,aF 67 .sub 63 66,aa 13 67] (ops 0 [cO 14 (mov (cN 1))]))) skip)).seq ((ac [aa 68 10,aa 69 68,ah 70 69 (cM 11),cO 71 (pick (t 69) (t 70) bf),aa 72 71,ah 73 72 (cM 14),ah 74 72 (cB .eql (t 73) (cN 1)),cO 75 (pick (t 72) (t 74) bf)] (aA 75 (ac [aa 76 0,aa 77 1,aa 78 2,aa 79 4,aL 80 91 [t 76,t 77,t 78,t 79]] (aA 80 ret skip)) skip)).seq (((mixS 1 [aa 81 1,aq 82 .gtr 81 0,aa 83 82,ah 84 83 (cM 4),ah 85 83 (cM 0),ah 86 83 (cM 1),ah 87 83 (cB .sub (t 86) (cN 1)),ah 88 83 (ixaS 3 (t 85) (t 87)),ah 89 83 (ldn 3 (t 88)),ah 90 83 (cM 0),ah 91 83 (cM 13),ah 92 83 (ixaS 3 (t 90) (t 91)),ah 93 83 (ldn 3 (t 92)),ah 94 83 (call (t 84) [t 89,t 93]),ah 95 83 (cB .lss (t 94) (cN 0)),ah 96 83 (un UnOp.not (t 95)),cO 97 (pick (t 83) (t 96) bf)] [(0,0),(1,0),(2,0),(3,0),(4,0),(5,0),(6,0),(7,0),(8,0),(9,0),(10,0),(11,0),(12,0),(13,2),(14,0),(15,0),(16,0)]).seq (aA 97 (ac [aa 98 0,aa 99 1,aa 100 2,aa 101 13,aa 102 4,aL 103 92 [t 98,t 99,t 100,t 101,t 102],aa 15 103] (ac [aa 104 15,aa 1 104] (exit 1))) skip)).seq (ac [aa 106 0,aa 107 1,aa 108 2,aa 109 13,aa 110 4,aL 111 93 [t 106,t 107,t 108,t 109,t 110],aa 105 111,bF 112 105 0,bF 113 105 1,aa 16 112,aa 17 113] (ac [aa 114 17,aa 11 114] (ac [aa 115 16,aa 116 1,aF 117 .sub 115 116,aa 118 2,aa 119 16,aF 120 .sub 118 119,aa 18 117,aa 19 120] (ac [aa 121 12,aq 122 .quo 121 8,aa 20 122] (ac [aa 123 18,aa 124 19,aF 125 .lss 123 124] (aA 125 (ac [aa 126 18,aa 127 20,aF 128 .geq 126 127,aa 10 128] (ac [aa 129 0,aa 130 1,aa 131 16,aa 132 3,aa 133 4,aL 134 70 [t 129,t 130,t 131,t 132,t 133]] (ops 0 [aa 135 16,aq 136 .add 135 1,aa 1 136]))) (ac [aa 137 19,aa 138 20,aF 139 .geq 137 138,aa 10 139] (ac [aa 140 0,aa 141 16,aq 142 .add 141 1,aa 143 2,aa 144 3,aa 145 4,aL 146 70 [t 140,t 142,t 143,t 144,t 145]] (ops 0 [aa 147 16,aa 2 147])))))))))))))))))).loop))))
theorem D9:Is Tryz.prog 70 b70:=mkI Tryz.func70
def b71:F2:=(F2.mk 8 [RV.t 2] (ac [cO 2 (mov (cN 0))] ((C2.cond bf (ac [aa 3 0,cO 4 (conv IntKind.u32 (t 3)),aL 5 94 [t 4],aa 2 5] ret) skip).seq (ac [aa 6 0,aL 7 95 [t 6],aa 2 7] ret))))
theorem As:Is Tryz.prog 71 b71:=mkI Tryz.func71
def b72:F2:=(F2.mk 16 [RV.t 5] (ac [cO 5 (mov bf)] ((mixS 1 [aa 6 1,aL 7 37 [t 6],aE 8 2,cO 9 (mx (t 8) [cN ((1))]),aF 10 .leq 7 9,aa 11 10,ah 12 11 (cM 0),ah 13 11 (cM 1),ah 14 11 (call (cF 73) [t 12,t 13]),cO 15 (pick (t 11) (t 14) bf),aa 5 15] [(0,0),(2,0),(3,0),(1,1),(4,0),(5,0),(6,0),(7,0),(8,2),(9,0),(10,0)]).seq ret)))
theorem DF:Is Tryz.prog 72 b72:=mkI Tryz.func72
def b73:F2:=(F2.mk 9 [RV.t 4] (ac [cO 2 (box (t 0)),cO 4 (mov bf)] (ac [aa 5 1,cO 6 (mkfn 96 [t 2]),aL 7 61 [t 5,t 6],cO 8 (un UnOp.not (t 7)),aa 4 8] ret)))
theorem Dr:Is Tryz.prog 73 b73:=mkI Tryz.func73
def b74:F2:=(F2.mk 15 [RV.t 6] (ac [cO 6 (mov bf)] (ac [aa 7 0,aa 8 1,aF 9 .geq 7 8,aa 10 9,ah 11 10 (cM 0),ah 12 10 (cM 2),ah 13 10 (cB .leq (t 11) (t 12)),cO 14 (pick (t 10) (t 13) bf),aa 6 14] ret)))
theorem C8:Is Tryz.prog 74 b74:=mkI Tryz.func74
def b75:F2:=(F2.mk 28 [RV.t 8] (ac [cO 6 (box (t 2)),cO 7 (box (t 3)),cO 8 (mov (cN 0))] (ac [cO 9 (alloc (aP)),Op2.mk none none (Ins.st 1 (t 9) (cN 0))] ((ac [aa 11 0,aa 12 1,aL 13 76 [t 11,t 12]] (block 0 (rangeF (t 13) [14] (ops 0 [aa 10 14]) (block 1 ((ac [aE 15 6,cO 16 (bin BinOp.eql false true (t 15) (c AV.nilf)),aa 17 16,aN 18 17 (cD 6),aN 19 17 (cM 10),aN 20 17 (call (t 18) [t 19]),cO 21 (pick (t 17) bV (t 20))] (aA 21 (ops 0 [aE 22 9,aq 23 .add 22 1,a8 1 9 23]) skip)).seq (ac [aE 24 9,aE 25 7,aF 26 .gtr 24 25] (aA 26 (exit 0) skip))))))).seq (ac [aE 27 9,aa 8 27] ret)))))
theorem C9:Is Tryz.prog 75 b75:=mkI Tryz.func75
def b76:F2:=(F2.mk 6 [RV.t 4] (ac [cO 2 (box (t 0)),cO 3 (box (t 1)),cO 4 (mov (c AV.nilf))] (ac [cO 5 (mkfn 98 [t 2,t 3]),aa 4 5] ret)))
theorem DA:Is Tryz.prog 76 b76:=mkI Tryz.func76
def b77:F2:=(F2.mk 19 [RV.t 4] (ac [cO 4 (mov (cN 0))] ((ac [aa 6 0,cm 7 6,cO 8 (mov (cN 0))] (block 0 (ac [aF 9 .lss 8 7] ((aA 9 skip (exit 0)).seq ((block 1 (ac [aa 10 8,aa 5 10] (ac [aa 11 1,aa 12 0,aa 13 5,cO 14 (ixaS 1 (t 12) (t 13)),aE 15 14,cO 16 (call (t 11) [t 15])] (aA 16 (ac [aa 17 5,aa 4 17] ret) skip)))).seq (ops 0 [aq 18 .add 8 1,aa 8 18])))).loop)).seq (ac [cO 4 (mov (cN ((-1))))] ret))))
theorem B8:Is Tryz.prog 77 b77:=mkI Tryz.func77
def b78:F2:=(F2.mk 13 [RV.t 4] (ac [cO 2 (box (t 0)),cO 4 (mov (c AV.esl))] ((ac [aa 6 1] (block 0 (rangeF (t 6) [7] (ops 0 [aa 5 7]) (block 1 (ops 0 [aE 8 2,aa 9 5,cO 10 (bldS 1 1 [AV.str (ByteArray.mk (Array.mk []))] [(0,1,t 9)]),cO 11 (app 1 16 (t 8) (t 10)),a8 1 2 11]))))).seq (ac [aE 12 2,aa 4 12] ret))))
theorem DX:Is Tryz.prog 78 b78:=mkI Tryz.func78
def b79:F2:=(F2.mk 134 [] (ac [cO 8 (mov bV)] (ac [cO 9 (mov bV)] (block 0 (block 1 (ac [aa 19 2,aa 20 1,aF 21 .sub 19 20,aa 10 21] ((ac [aa 22 10,aq 23 .leq 22 12] (aA 23 (ac [aa 24 0,aa 25 1,aa 26 2,aL 27 99 [t 24,t 25,t 26]] ret) skip)).seq ((ac [aa 28 3,aq 29 .eql 28 0] (aA 29 (ac [aa 30 0,aa 31 1,aa 32 2,aL 33 100 [t 30,t 31,t 32]] ret) skip)).seq ((ac [aa 34 8,cO 35 (un UnOp.not (t 34))] (aA 35 (ac [aa 36 0,aa 37 1,aa 38 2,aL 39 101 [t 36,t 37,t 38]] (ops 0 [aa 40 3,aq 41 .sub 40 1,aa 3 41])) skip)).seq (ac [aa 43 0,aa 44 1,aa 45 2,aL 46 102 [t 43,t 44,t 45],aa 42 46,bF 47 42 0,bF 48 42 1,aa 11 47,aa 12 48] ((ac [aa 49 12,aq 50 .eql 49 2] (aA 50 (ac [aa 51 0,aa 52 1,aa 53 2,aL 54 103 [t 51,t 52,t 53]] (ac [aa 55 2,aq 56 .sub 55 1,aa 57 11,aa 58 1,aF 59 .sub 57 58,aF 60 .sub 56 59,aa 11 60] (ops 0 [cO 12 (mov (cN 1))]))) skip)).seq ((ac [aa 61 8,aa 62 61,ah 63 62 (cM 9),cO 64 (pick (t 62) (t 63) bf),aa 65 64,ah 66 65 (cM 12),ah 67 65 (cB .eql (t 66) (cN 1)),cO 68 (pick (t 65) (t 67) bf)] (aA 68 (ac [aa 69 0,aa 70 1,aa 71 2,aL 72 104 [t 69,t 70,t 71]] (aA 72 ret skip)) skip)).seq (((mixS 1 [aa 73 1,aq 74 .gtr 73 0,aa 75 74,ah 76 75 (cM 0),ah 77 75 (cM 1),ah 78 75 (cB .sub (t 77) (cN 1)),ah 79 75 (ixaS 1 (t 76) (t 78)),ah 80 75 (cD 79),ah 81 75 (cM 0),ah 82 75 (cM 11),ah 83 75 (ixaS 1 (t 81) (t 82)),ah 84 75 (cD 83),ah 85 75 (call (cF 105) [t 80,t 84]),ah 86 75 (un UnOp.not (t 85)),cO 87 (pick (t 75) (t 86) bf)] [(0,0),(1,0),(2,0),(3,0),(4,0),(5,0),(6,0),(7,0),(8,0),(9,0),(10,0),(11,0),(12,2),(13,0),(14,0)]).seq (aA 87 (ac [aa 88 0,aa 89 1,aa 90 2,aa 91 11,aL 92 106 [t 88,t 89,t 90,t 91],aa 13 92] (ac [aa 93 13,aa 1 93] (exit 1))) skip)).seq (ac [aa 95 0,aa 96 1,aa 97 2,aa 98 11,aL 99 107 [t 95,t 96,t 97,t 98],aa 94 99,bF 100 94 0,bF 101 94 1,aa 14 100,aa 15 101] (ac [aa 102 15,aa 9 102] (ac [aa 103 14,aa 104 1,aF 105 .sub 103 104,aa 106 2,aa 107 14,aF 108 .sub 106 107,aa 16 105,aa 17 108] (ac [aa 109 10,aq 110 .quo 109 8,aa 18 110] (ac [aa 111 16,aa 112 17,aF 113 .lss 111 112] (aA 113 (ac [aa 114 16,aa 115 18,aF 116 .geq 114 115,aa 8 116] (ac [aa 117 0,aa 118 1,aa 119 14,aa 120 3,aL 121 79 [t 117,t 118,t 119,t 120]] (ops 0 [aa 122 14,aq 123 .add 122 1,aa 1 123]))) (ac [aa 124 17,aa 125 18,aF 126 .geq 124 125,aa 8 126] (ac [aa 127 0,aa 128 14,aq 129 .add 128 1,aa 130 2,aa 131 3,aL 132 79 [t 127,t 129,t 130,t 131]] (ops 0 [aa 133 14,aa 2 133])))))))))))))))))).loop))))
theorem De:Is Tryz.prog 79 b79:=mkI Tryz.func79
def b80:F2:=(F2.mk 20 [RV.t 4] (ac [cO 4 (mov bf)] (ac [cO 5 (mov (cN 0))] ((ac [aa 8 1,cm 9 8,cO 10 (mov (cN 0))] (block 0 (ac [aF 11 .lss 10 9] ((aA 11 skip (exit 0)).seq ((block 1 (ac [cO 12 (ixaS 1 (t 8) (t 10)),aE 13 12,aa 7 13] (ops 0 [aa 14 5,aa 15 7,aF 16 .add 14 15,aa 5 16]))).seq (ops 0 [aq 17 .add 10 1,aa 10 17])))).loop)).seq (ac [aa 18 5,aq 19 .eql 18 1,aa 4 19] ret)))))
theorem DE:Is Tryz.prog 80 b80:=mkI Tryz.func80
def b81:F2:=(F2.mk 6 [RV.t 2] (ac [cO 2 (mov bf)] (ac [aa 3 0,aa 4 0,aF 5 .neq 3 4,aa 2 5] ret)))
theorem Bn:Is Tryz.prog 81 b81:=mkI Tryz.func81
def b82:F2:=(F2.mk 9 [RV.t 4] (ac [cO 4 (mov bf)] (ac [aa 5 0,aa 6 1,aL 7 108 [t 5,t 6],aq 8 .geq 7 0,aa 4 8] ret)))
theorem Cd:Is Tryz.prog 82 b82:=mkI Tryz.func82
def b83:F2:=(F2.mk 7 [RV.t 3] (ac [cO 3 (mov bf)] (ac [aa 4 0,aE 5 1,aL 6 84 [t 4,t 5],aa 3 6] ret)))
theorem Cb:Is Tryz.prog 83 b83:=mkI Tryz.func83
def b84:F2:=(F2.mk 26 [RV.t 4] (ac [cO 4 (mov bf)] ((ac [aa 6 0,cm 7 6,aa 8 1,cm 9 8,aF 10 .neq 7 9] (aA 10 (ac [cO 4 (mov bf)] ret) skip)).seq ((ac [aa 11 0,cm 12 11,cO 13 (mov (cN 0))] (block 0 (ac [aF 14 .lss 13 12] ((aA 14 skip (exit 0)).seq ((block 1 (ac [aa 15 13,aa 5 15] ((ops 1 [aa 16 0,aa 17 5,cO 18 (ixaS 1 (t 16) (t 17)),aE 19 18,aa 20 1,aa 21 5,cO 22 (ixaS 1 (t 20) (t 21)),aE 23 22,aF 24 .neq 19 23]).seq (aA 24 (ac [cO 4 (mov bf)] ret) skip)))).seq (ops 0 [aq 25 .add 13 1,aa 13 25])))).loop)).seq (ac [cO 4 (mov bV)] ret)))))
theorem BI:Is Tryz.prog 84 b84:=mkI Tryz.func84
def b85:F2:=(F2.mk 148 [] (ac [cO 10 (mov bV)] (ac [cO 11 (mov bV)] (block 0 (block 1 (ac [aa 21 2,aa 22 1,aF 23 .sub 21 22,aa 12 23] ((ac [aa 24 12,aq 25 .leq 24 12] (aA 25 (ac [aa 26 0,aa 27 1,aa 28 2,aa 29 4,aL 30 109 [t 26,t 27,t 28,t 29]] ret) skip)).seq ((ac [aa 31 3,aq 32 .eql 31 0] (aA 32 (ac [aa 33 0,aa 34 1,aa 35 2,aa 36 4,aL 37 110 [t 33,t 34,t 35,t 36]] ret) skip)).seq ((ac [aa 38 10,cO 39 (un UnOp.not (t 38))] (aA 39 (ac [aa 40 0,aa 41 1,aa 42 2,aa 43 4,aL 44 111 [t 40,t 41,t 42,t 43]] (ops 0 [aa 45 3,aq 46 .sub 45 1,aa 3 46])) skip)).seq (ac [aa 48 0,aa 49 1,aa 50 2,aa 51 4,aL 52 112 [t 48,t 49,t 50,t 51],aa 47 52,bF 53 47 0,bF 54 47 1,aa 13 53,aa 14 54] ((ac [aa 55 14,aq 56 .eql 55 2] (aA 56 (ac [aa 57 0,aa 58 1,aa 59 2,aa 60 4,aL 61 113 [t 57,t 58,t 59,t 60]] (ac [aa 62 2,aq 63 .sub 62 1,aa 64 13,aa 65 1,aF 66 .sub 64 65,aF 67 .sub 63 66,aa 13 67] (ops 0 [cO 14 (mov (cN 1))]))) skip)).seq ((ac [aa 68 10,aa 69 68,ah 70 69 (cM 11),cO 71 (pick (t 69) (t 70) bf),aa 72 71,ah 73 72 (cM 14),ah 74 72 (cB .eql (t 73) (cN 1)),cO 75 (pick (t 72) (t 74) bf)] (aA 75 (ac [aa 76 0,aa 77 1,aa 78 2,aa 79 4,aL 80 114 [t 76,t 77,t 78,t 79]] (aA 80 ret skip)) skip)).seq (((mixS 1 [aa 81 1,aq 82 .gtr 81 0,aa 83 82,ah 84 83 (cM 4),ah 85 83 (cM 0),ah 86 83 (cM 1),ah 87 83 (cB .sub (t 86) (cN 1)),ah 88 83 (ixaS 1 (t 85) (t 87)),ah 89 83 (cD 88),ah 90 83 (cM 0),ah 91 83 (cM 13),ah 92 83 (ixaS 1 (t 90) (t 91)),ah 93 83 (cD 92),ah 94 83 (call (t 84) [t 89,t 93]),ah 95 83 (cB .lss (t 94) (cN 0)),ah 96 83 (un UnOp.not (t 95)),cO 97 (pick (t 83) (t 96) bf)] [(0,0),(1,0),(2,0),(3,0),(4,0),(5,0),(6,0),(7,0),(8,0),(9,0),(10,0),(11,0),(12,0),(13,2),(14,0),(15,0),(16,0)]).seq (aA 97 (ac [aa 98 0,aa 99 1,aa 100 2,aa 101 13,aa 102 4,aL 103 115 [t 98,t 99,t 100,t 101,t 102],aa 15 103] (ac [aa 104 15,aa 1 104] (exit 1))) skip)).seq (ac [aa 106 0,aa 107 1,aa 108 2,aa 109 13,aa 110 4,aL 111 116 [t 106,t 107,t 108,t 109,t 110],aa 105 111,bF 112 105 0,bF 113 105 1,aa 16 112,aa 17 113] (ac [aa 114 17,aa 11 114] (ac [aa 115 16,aa 116 1,aF 117 .sub 115 116,aa 118 2,aa 119 16,aF 120 .sub 118 119,aa 18 117,aa 19 120] (ac [aa 121 12,aq 122 .quo 121 8,aa 20 122] (ac [aa 123 18,aa 124 19,aF 125 .lss 123 124] (aA 125 (ac [aa 126 18,aa 127 20,aF 128 .geq 126 127,aa 10 128] (ac [aa 129 0,aa 130 1,aa 131 16,aa 132 3,aa 133 4,aL 134 85 [t 129,t 130,t 131,t 132,t 133]] (ops 0 [aa 135 16,aq 136 .add 135 1,aa 1 136]))) (ac [aa 137 19,aa 138 20,aF 139 .geq 137 138,aa 10 139] (ac [aa 140 0,aa 141 16,aq 142 .add 141 1,aa 143 2,aa 144 3,aa 145 4,aL 146 85 [t 140,t 142,t 143,t 144,t 145]] (ops 0 [aa 147 16,aa 2 147])))))))))))))))))).loop))))
theorem CE:Is Tryz.prog 85 b85:=mkI Tryz.func85
def b86:F2:=(F2.mk 53 [] (ac [aa 10 1,aq 11 .add 10 1,aa 8 11] (block 0 ((ac [aa 12 8,aa 13 2,aF 14 .lss 12 13] (aA 14 skip (exit 0))).seq ((block 1 (ac [aa 17 8,aa 9 17] (block 2 (((mixS 1 [aa 18 9,aa 19 1,aF 20 .gtr 18 19,aa 21 20,ah 22 21 (cM 3),ah 23 21 (cM 0),ah 24 21 (cM 9),ah 25 21 (ixaS 3 (t 23) (t 24)),ah 26 21 (ldn 3 (t 25)),ah 27 21 (cM 0),ah 28 21 (cM 9),ah 29 21 (cB .sub (t 28) (cN 1)),ah 30 21 (ixaS 3 (t 27) (t 29)),ah 31 21 (ldn 3 (t 30)),ah 32 21 (call (t 22) [t 26,t 31]),ah 33 21 (cB .lss (t 32) (cN 0)),cO 34 (pick (t 21) (t 33) bf)] [(0,0),(1,0),(2,0),(3,0),(4,0),(5,0),(6,0),(7,0),(8,0),(9,0),(10,0),(11,0),(12,0),(13,0),(14,2),(15,0),(16,0)]).seq (aA 34 skip (exit 2))).seq ((block 3 (ops 1 [aa 37 0,aa 38 9,aa 39 0,aa 40 9,aq 41 .sub 40 1,aa 42 0,aa 43 9,aq 44 .sub 43 1,cO 45 (ixaS 3 (t 42) (t 44)),ca 46 3 45,aa 47 0,aa 48 9,cO 49 (ixaS 3 (t 47) (t 48)),ca 50 3 49,cO 51 (ixaS 3 (t 37) (t 38)),a8 3 51 46,cO 52 (ixaS 3 (t 39) (t 41)),a8 3 52 50])).seq (ops 0 [aa 35 9,aq 36 .sub 35 1,aa 9 36]))).loop))).seq (ops 0 [aa 15 8,aq 16 .add 15 1,aa 8 16]))).loop)))
theorem Dk:Is Tryz.prog 86 b86:=mkI Tryz.func86
def b87:F2:=(F2.mk 60 [] (ac [aa 13 1,aa 8 13] (ac [cO 9 (mov (cN 0))] (ac [aa 14 2,aa 15 1,aF 16 .sub 14 15,aa 10 16] ((ac [aa 17 10,aq 18 .sub 17 1,aq 19 .quo 18 2,aa 11 19] (block 0 ((ac [aa 20 11,aq 21 .geq 20 0] (aA 21 skip (exit 0))).seq ((block 1 (ops 0 [aa 24 0,aa 25 11,aa 26 10,aa 27 8,aa 28 3,aL 29 117 [t 24,t 25,t 26,t 27,t 28]])).seq (ops 0 [aa 22 11,aq 23 .sub 22 1,aa 11 23]))).loop)).seq (ac [aa 30 10,aq 31 .sub 30 1,aa 12 31] (block 2 ((ac [aa 32 12,aq 33 .geq 32 0] (aA 33 skip (exit 2))).seq ((block 3 ((ops 1 [aa 36 0,aa 37 8,aa 38 0,aa 39 8,aa 40 12,aF 41 .add 39 40,aa 42 0,aa 43 8,aa 44 12,aF 45 .add 43 44,cO 46 (ixaS 3 (t 42) (t 45)),ca 47 3 46,aa 48 0,aa 49 8,cO 50 (ixaS 3 (t 48) (t 49)),ca 51 3 50,cO 52 (ixaS 3 (t 36) (t 37)),a8 3 52 47,cO 53 (ixaS 3 (t 38) (t 41)),a8 3 53 51]).seq (ops 0 [aa 54 0,aa 55 9,aa 56 12,aa 57 8,aa 58 3,aL 59 117 [t 54,t 55,t 56,t 57,t 58]]))).seq (ops 0 [aa 34 12,aq 35 .sub 34 1,aa 12 35]))).loop)))))))
theorem DB:Is Tryz.prog 87 b87:=mkI Tryz.func87
def b88:F2:=(F2.mk 67 [] (ac [aa 13 2,aa 14 1,aF 15 .sub 13 14,aa 8 15] (ac [aa 16 8,aq 17 .geq 16 8] (aA 17 (ac [aa 18 8,cO 19 (conv IntKind.u64 (t 18)),cO 9 (alloc (AV.int IntKind.u64 (0))),a8 1 9 19] (ac [aa 20 8,aL 21 118 [t 20],aa 10 21] (ac [aa 22 1,aa 23 8,aq 24 .quo 23 4,aq 25 .mul 24 2,aF 26 .add 22 25,aq 27 .sub 26 1,aa 11 27] (block 0 ((ac [aa 28 11,aa 29 1,aa 30 8,aq 31 .quo 30 4,aq 32 .mul 31 2,aF 33 .add 29 32,aq 34 .add 33 1,aF 35 .leq 28 34] (aA 35 skip (exit 0))).seq ((block 1 (ac [aL 38 119 [t 9],aa 39 10,cO 40 (cB .sub (t 39) (c (AV.int IntKind.u64 (1)))),aF 41 .and 38 40,cO 42 (conv IntKind.i64 (t 41)),aa 12 42] ((ac [aa 43 12,aa 44 8,aF 45 .geq 43 44] (aA 45 (ops 0 [aa 46 12,aa 47 8,aF 48 .sub 46 47,aa 12 48]) skip)).seq (ops 1 [aa 49 0,aa 50 11,aa 51 0,aa 52 1,aa 53 12,aF 54 .add 52 53,aa 55 0,aa 56 1,aa 57 12,aF 58 .add 56 57,cO 59 (ixaS 3 (t 55) (t 58)),ca 60 3 59,aa 61 0,aa 62 11,cO 63 (ixaS 3 (t 61) (t 62)),ca 64 3 63,cO 65 (ixaS 3 (t 49) (t 50)),a8 3 65 60,cO 66 (ixaS 3 (t 51) (t 54)),a8 3 66 64])))).seq (ops 0 [aa 36 11,aq 37 .add 36 1,aa 11 37]))).loop)))) skip))))
theorem Dd:Is Tryz.prog 88 b88:=mkI Tryz.func88
def b89:F2:=(F2.mk 63 [RV.t 8,RV.t 9] (ac [cO 8 (mov (cN 0)),cO 9 (mov (cN 0))] (ac [aa 15 2,aa 16 1,aF 17 .sub 15 16,aa 10 17] (ac [cO 11 (alloc (aP))] (ac [aa 18 1,aa 19 10,aq 20 .quo 19 4,aq 21 .mul 20 1,aF 22 .add 18 21,aa 12 22] (ac [aa 23 1,aa 24 10,aq 25 .quo 24 4,aq 26 .mul 25 2,aF 27 .add 23 26,aa 13 27] (ac [aa 28 1,aa 29 10,aq 30 .quo 29 4,aq 31 .mul 30 3,aF 32 .add 28 31,aa 14 32] ((ac [aa 33 10,aq 34 .geq 33 8] (aA 34 ((ac [aa 35 10,aq 36 .geq 35 50] (aA 36 (ac [aa 37 0,aa 38 12,aa 39 3,aL 40 120 [t 37,t 38,t 11,t 39],aa 12 40] (ac [aa 41 0,aa 42 13,aa 43 3,aL 44 120 [t 41,t 42,t 11,t 43],aa 13 44] (ops 0 [aa 45 0,aa 46 14,aa 47 3,aL 48 120 [t 45,t 46,t 11,t 47],aa 14 48]))) skip)).seq (ops 0 [aa 49 0,aa 50 12,aa 51 13,aa 52 14,aa 53 3,aL 54 121 [t 49,t 50,t 51,t 52,t 11,t 53],aa 13 54])) skip)).seq (ac [aE 55 11] (block 0 (ac [aq 58 .eql 55 0,aa 57 58] (aA 57 (ac [aa 59 13,aa 8 59,cO 9 (mov (cN 1))] ret) (ac [aq 61 .eql 55 12,aa 60 61] (aA 60 (ac [aa 62 13,aa 8 62,cO 9 (mov (cN 2))] ret) (ac [aa 56 13,aa 8 56,cO 9 (mov (cN 0))] ret)))))))))))))))
theorem DC:Is Tryz.prog 89 b89:=mkI Tryz.func89
def b90:F2:=(F2.mk 34 [] (ac [aa 10 1,aa 8 10] (ac [aa 11 2,aq 12 .sub 11 1,aa 9 12] (block 0 ((ac [aa 13 8,aa 14 9,aF 15 .lss 13 14] (aA 15 skip (exit 0))).seq (block 1 ((ops 1 [aa 16 0,aa 17 8,aa 18 0,aa 19 9,aa 20 0,aa 21 9,cO 22 (ixaS 3 (t 20) (t 21)),ca 23 3 22,aa 24 0,aa 25 8,cO 26 (ixaS 3 (t 24) (t 25)),ca 27 3 26,cO 28 (ixaS 3 (t 16) (t 17)),a8 3 28 23,cO 29 (ixaS 3 (t 18) (t 19)),a8 3 29 27]).seq (ac [aa 30 8,aq 31 .add 30 1,aa 8 31] (ops 0 [aa 32 9,aq 33 .sub 32 1,aa 9 33]))))).loop))))
theorem DP:Is Tryz.prog 90 b90:=mkI Tryz.func90
def b91:F2:=(F2.mk 141 [RV.t 8] (ac [cO 8 (mov bf)] (ac [aa 13 1,aq 14 .add 13 1,aa 9 14] ((ac [cO 10 (mov (cN 0))] (block 0 ((ac [aa 15 10,aq 16 .lss 15 5] (aA 16 skip (exit 0))).seq ((block 1 ((block 2 (((mixS 1 [aa 19 9,aa 20 2,aF 21 .lss 19 20,aa 22 21,ah 23 22 (cM 3),ah 24 22 (cM 0),ah 25 22 (cM 9),ah 26 22 (ixaS 3 (t 24) (t 25)),ah 27 22 (ldn 3 (t 26)),ah 28 22 (cM 0),ah 29 22 (cM 9),ah 30 22 (cB .sub (t 29) (cN 1)),ah 31 22 (ixaS 3 (t 28) (t 30)),ah 32 22 (ldn 3 (t 31)),ah 33 22 (call (t 23) [t 27,t 32]),ah 34 22 (cB .lss (t 33) (cN 0)),ah 35 22 (un UnOp.not (t 34)),cO 36 (pick (t 22) (t 35) bf)] [(0,0),(1,0),(2,0),(3,0),(4,0),(5,0),(6,0),(7,0),(8,0),(9,0),(10,0),(11,0),(12,0),(13,0),(14,2),(15,0),(16,0),(17,0)]).seq (aA 36 skip (exit 2))).seq (block 3 (ops 0 [aa 37 9,aq 38 .add 37 1,aa 9 38]))).loop).seq ((ac [aa 39 9,aa 40 2,aF 41 .eql 39 40] (aA 41 (ac [cO 8 (mov bV)] ret) skip)).seq ((ac [aa 42 2,aa 43 1,aF 44 .sub 42 43,aq 45 .lss 44 50] (aA 45 (ac [cO 8 (mov bf)] ret) skip)).seq ((ops 1 [aa 46 0,aa 47 9,aa 48 0,aa 49 9,aq 50 .sub 49 1,aa 51 0,aa 52 9,aq 53 .sub 52 1,cO 54 (ixaS 3 (t 51) (t 53)),ca 55 3 54,aa 56 0,aa 57 9,cO 58 (ixaS 3 (t 56) (t 57)),ca 59 3 58,cO 60 (ixaS 3 (t 46) (t 47)),a8 3 60 55,cO 61 (ixaS 3 (t 48) (t 50)),a8 3 61 59]).seq ((ac [aa 62 9,aa 63 1,aF 64 .sub 62 63,aq 65 .geq 64 2] (aA 65 (ac [aa 66 9,aq 67 .sub 66 1,aa 11 67] (block 4 ((ac [aa 68 11,aq 69 .geq 68 1] (aA 69 skip (exit 4))).seq ((block 5 (((mixS 1 [aa 72 3,aa 73 0,aa 74 11,cO 75 (ixaS 3 (t 73) (t 74)),ca 76 3 75,aa 77 0,aa 78 11,aq 79 .sub 78 1,cO 80 (ixaS 3 (t 77) (t 79)),ca 81 3 80,cO 82 (call (t 72) [t 76,t 81]),aq 83 .lss 82 0,cO 84 (un UnOp.not (t 83))] [(0,0),(1,0),(2,0),(3,0),(4,0),(5,0),(6,0),(7,0),(8,0),(9,0),(10,2),(11,0),(12,0)]).seq (aA 84 (exit 4) skip)).seq (ops 1 [aa 85 0,aa 86 11,aa 87 0,aa 88 11,aq 89 .sub 88 1,aa 90 0,aa 91 11,aq 92 .sub 91 1,cO 93 (ixaS 3 (t 90) (t 92)),ca 94 3 93,aa 95 0,aa 96 11,cO 97 (ixaS 3 (t 95) (t 96)),ca 98 3 97,cO 99 (ixaS 3 (t 85) (t 86)),a8 3 99 94,cO 100 (ixaS 3 (t 87) (t 89)),a8 3 100 98]))).seq (ops 0 [aa 70 11,aq 71 .sub 70 1,aa 11 71]))).loop)) skip)).seq (ac [aa 101 2,aa 102 9,aF 103 .sub 101 102,aq 104 .geq 103 2] (aA 104 (ac [aa 105 9,aq 106 .add 105 1,aa 12 106] (block 6 ((ac [aa 107 12,aa 108 2,aF 109 .lss 107 108] (aA 109 skip (exit 6))).seq ((block 7 (((mixS 1 [aa 112 3,aa 113 0,aa 114 12,cO 115 (ixaS 3 (t 113) (t 114)),ca 116 3 115,aa 117 0,aa 118 12,aq 119 .sub 118 1,cO 120 (ixaS 3 (t 117) (t 119)),ca 121 3 120,cO 122 (call (t 112) [t 116,t 121]),aq 123 .lss 122 0,cO 124 (un UnOp.not (t 123))] [(0,0),(1,0),(2,0),(3,0),(4,0),(5,0),(6,0),(7,0),(8,0),(9,0),(10,2),(11,0),(12,0)]).seq (aA 124 (exit 6) skip)).seq (ops 1 [aa 125 0,aa 126 12,aa 127 0,aa 128 12,aq 129 .sub 128 1,aa 130 0,aa 131 12,aq 132 .sub 131 1,cO 133 (ixaS 3 (t 130) (t 132)),ca 134 3 133,aa 135 0,aa 136 12,cO 137 (ixaS 3 (t 135) (t 136)),ca 138 3 137,cO 139 (ixaS 3 (t 125) (t 126)),a8 3 139 134,cO 140 (ixaS 3 (t 127) (t 129)),a8 3 140 138]))).seq (ops 0 [aa 110 12,aq 111 .add 110 1,aa 12 111]))).loop)) skip)))))))).seq (ops 0 [aa 17 10,aq 18 .add 17 1,aa 10 18]))).loop)).seq (ac [cO 8 (mov bf)] ret)))))
theorem DS:Is Tryz.prog 91 b91:=mkI Tryz.func91
def b92:F2:=(F2.mk 90 [RV.t 10] (ac [cO 10 (mov (cN 0))] ((ops 1 [aa 13 0,aa 14 1,aa 15 0,aa 16 3,aa 17 0,aa 18 3,cO 19 (ixaS 3 (t 17) (t 18)),ca 20 3 19,aa 21 0,aa 22 1,cO 23 (ixaS 3 (t 21) (t 22)),ca 24 3 23,cO 25 (ixaS 3 (t 13) (t 14)),a8 3 25 20,cO 26 (ixaS 3 (t 15) (t 16)),a8 3 26 24]).seq (ac [aa 27 1,aq 28 .add 27 1,aa 29 2,aq 30 .sub 29 1,aa 11 28,aa 12 30] ((block 0 (block 1 ((block 2 (((mixS 1 [aa 31 11,aa 32 12,aF 33 .leq 31 32,aa 34 33,ah 35 34 (cM 4),ah 36 34 (cM 0),ah 37 34 (cM 1),ah 38 34 (ixaS 3 (t 36) (t 37)),ah 39 34 (ldn 3 (t 38)),ah 40 34 (cM 0),ah 41 34 (cM 11),ah 42 34 (ixaS 3 (t 40) (t 41)),ah 43 34 (ldn 3 (t 42)),ah 44 34 (call (t 35) [t 39,t 43]),ah 45 34 (cB .lss (t 44) (cN 0)),ah 46 34 (un UnOp.not (t 45)),cO 47 (pick (t 34) (t 46) bf)] [(0,0),(1,0),(2,0),(3,0),(4,0),(5,0),(6,0),(7,0),(8,0),(9,0),(10,0),(11,0),(12,0),(13,2),(14,0),(15,0),(16,0)]).seq (aA 47 skip (exit 2))).seq (block 3 (ops 0 [aa 48 11,aq 49 .add 48 1,aa 11 49]))).loop).seq ((block 4 (((mixS 1 [aa 50 11,aa 51 12,aF 52 .leq 50 51,aa 53 52,ah 54 53 (cM 4),ah 55 53 (cM 0),ah 56 53 (cM 1),ah 57 53 (ixaS 3 (t 55) (t 56)),ah 58 53 (ldn 3 (t 57)),ah 59 53 (cM 0),ah 60 53 (cM 12),ah 61 53 (ixaS 3 (t 59) (t 60)),ah 62 53 (ldn 3 (t 61)),ah 63 53 (call (t 54) [t 58,t 62]),ah 64 53 (cB .lss (t 63) (cN 0)),cO 65 (pick (t 53) (t 64) bf)] [(0,0),(1,0),(2,0),(3,0),(4,0),(5,0),(6,0),(7,0),(8,0),(9,0),(10,0),(11,0),(12,0),(13,2),(14,0),(15,0)]).seq (aA 65 skip (exit 4))).seq (block 5 (ops 0 [aa 66 12,aq 67 .sub 66 1,aa 12 67]))).loop).seq ((ac [aa 68 11,aa 69 12,aF 70 .gtr 68 69] (aA 70 (exit 0) skip)).seq ((ops 1 [aa 71 0,aa 72 11,aa 73 0,aa 74 12,aa 75 0,aa 76 12,cO 77 (ixaS 3 (t 75) (t 76)),ca 78 3 77,aa 79 0,aa 80 11,cO 81 (ixaS 3 (t 79) (t 80)),ca 82 3 81,cO 83 (ixaS 3 (t 71) (t 72)),a8 3 83 78,cO 84 (ixaS 3 (t 73) (t 74)),a8 3 84 82]).seq (ac [aa 85 11,aq 86 .add 85 1,aa 11 86] (ops 0 [aa 87 12,aq 88 .sub 87 1,aa 12 88]))))))).loop).seq (ac [aa 89 11,aa 10 89] ret))))))
theorem DV:Is Tryz.prog 92 b92:=mkI Tryz.func92
def b93:F2:=(F2.mk 178 [RV.t 10,RV.t 11] (ac [cO 10 (mov (cN 0)),cO 11 (mov bf)] ((ops 1 [aa 14 0,aa 15 1,aa 16 0,aa 17 3,aa 18 0,aa 19 3,cO 20 (ixaS 3 (t 18) (t 19)),ca 21 3 20,aa 22 0,aa 23 1,cO 24 (ixaS 3 (t 22) (t 23)),ca 25 3 24,cO 26 (ixaS 3 (t 14) (t 15)),a8 3 26 21,cO 27 (ixaS 3 (t 16) (t 17)),a8 3 27 25]).seq (ac [aa 28 1,aq 29 .add 28 1,aa 30 2,aq 31 .sub 30 1,aa 12 29,aa 13 31] ((block 0 (((mixS 1 [aa 32 12,aa 33 13,aF 34 .leq 32 33,aa 35 34,ah 36 35 (cM 4),ah 37 35 (cM 0),ah 38 35 (cM 12),ah 39 35 (ixaS 3 (t 37) (t 38)),ah 40 35 (ldn 3 (t 39)),ah 41 35 (cM 0),ah 42 35 (cM 1),ah 43 35 (ixaS 3 (t 41) (t 42)),ah 44 35 (ldn 3 (t 43)),ah 45 35 (call (t 36) [t 40,t 44]),ah 46 35 (cB .lss (t 45) (cN 0)),cO 47 (pick (t 35) (t 46) bf)] [(0,0),(1,0),(2,0),(3,0),(4,0),(5,0),(6,0),(7,0),(8,0),(9,0),(10,0),(11,0),(12,0),(13,2),(14,0),(15,0)]).seq (aA 47 skip (exit 0))).seq (block 1 (ops 0 [aa 48 12,aq 49 .add 48 1,aa 12 49]))).loop).seq ((block 2 (((mixS 1 [aa 50 12,aa 51 13,aF 52 .leq 50 51,aa 53 52,ah 54 53 (cM 4),ah 55 53 (cM 0),ah 56 53 (cM 13),ah 57 53 (ixaS 3 (t 55) (t 56)),ah 58 53 (ldn 3 (t 57)),ah 59 53 (cM 0),ah 60 53 (cM 1),ah 61 53 (ixaS 3 (t 59) (t 60)),ah 62 53 (ldn 3 (t 61)),ah 63 53 (call (t 54) [t 58,t 62]),ah 64 53 (cB .lss (t 63) (cN 0)),ah 65 53 (un UnOp.not (t 64)),cO 66 (pick (t 53) (t 65) bf)] [(0,0),(1,0),(2,0),(3,0),(4,0),(5,0),(6,0),(7,0),(8,0),(9,0),(10,0),(11,0),(12,0),(13,2),(14,0),(15,0),(16,0)]).seq (aA 66 skip (exit 2))).seq (block 3 (ops 0 [aa 67 13,aq 68 .sub 67 1,aa 13 68]))).loop).seq ((ac [aa 69 12,aa 70 13,aF 71 .gtr 69 70] (aA 71 ((ops 1 [aa 72 0,aa 73 13,aa 74 0,aa 75 1,aa 76 0,aa 77 1,cO 78 (ixaS 3 (t 76) (t 77)),ca 79 3 78,aa 80 0,aa 81 13,cO 82 (ixaS 3 (t 80) (t 81)),ca 83 3 82,cO 84 (ixaS 3 (t 72) (t 73)),a8 3 84 79,cO 85 (ixaS 3 (t 74) (t 75)),a8 3 85 83]).seq (ac [aa 86 13,aa 10 86,cO 11 (mov bV)] ret)) skip)).seq ((ops 1 [aa 87 0,aa 88 12,aa 89 0,aa 90 13,aa 91 0,aa 92 13,cO 93 (ixaS 3 (t 91) (t 92)),ca 94 3 93,aa 95 0,aa 96 12,cO 97 (ixaS 3 (t 95) (t 96)),ca 98 3 97,cO 99 (ixaS 3 (t 87) (t 88)),a8 3 99 94,cO 100 (ixaS 3 (t 89) (t 90)),a8 3 100 98]).seq (ac [aa 101 12,aq 102 .add 101 1,aa 12 102] (ac [aa 103 13,aq 104 .sub 103 1,aa 13 104] ((block 4 (block 5 ((block 6 (((mixS 1 [aa 105 12,aa 106 13,aF 107 .leq 105 106,aa 108 107,ah 109 108 (cM 4),ah 110 108 (cM 0),ah 111 108 (cM 12),ah 112 108 (ixaS 3 (t 110) (t 111)),ah 113 108 (ldn 3 (t 112)),ah 114 108 (cM 0),ah 115 108 (cM 1),ah 116 108 (ixaS 3 (t 114) (t 115)),ah 117 108 (ldn 3 (t 116)),ah 118 108 (call (t 109) [t 113,t 117]),ah 119 108 (cB .lss (t 118) (cN 0)),cO 120 (pick (t 108) (t 119) bf)] [(0,0),(1,0),(2,0),(3,0),(4,0),(5,0),(6,0),(7,0),(8,0),(9,0),(10,0),(11,0),(12,0),(13,2),(14,0),(15,0)]).seq (aA 120 skip (exit 6))).seq (block 7 (ops 0 [aa 121 12,aq 122 .add 121 1,aa 12 122]))).loop).seq ((block 8 (((mixS 1 [aa 123 12,aa 124 13,aF 125 .leq 123 124,aa 126 125,ah 127 126 (cM 4),ah 128 126 (cM 0),ah 129 126 (cM 13),ah 130 126 (ixaS 3 (t 128) (t 129)),ah 131 126 (ldn 3 (t 130)),ah 132 126 (cM 0),ah 133 126 (cM 1),ah 134 126 (ixaS 3 (t 132) (t 133)),ah 135 126 (ldn 3 (t 134)),ah 136 126 (call (t 127) [t 131,t 135]),ah 137 126 (cB .lss (t 136) (cN 0)),ah 138 126 (un UnOp.not (t 137)),cO 139 (pick (t 126) (t 138) bf)] [(0,0),(1,0),(2,0),(3,0),(4,0),(5,0),(6,0),(7,0),(8,0),(9,0),(10,0),(11,0),(12,0),(13,2),(14,0),(15,0),(16,0)]).seq (aA 139 skip (exit 8))).seq (block 9 (ops 0 [aa 140 13,aq 141 .sub 140 1,aa 13 141]))).loop).seq ((ac [aa 142 12,aa 143 13,aF 144 .gtr 142 143] (aA 144 (exit 4) skip)).seq ((ops 1 [aa 145 0,aa 146 12,aa 147 0,aa 148 13,aa 149 0,aa 150 13,cO 151 (ixaS 3 (t 149) (t 150)),ca 152 3 151,aa 153 0,aa 154 12,cO 155 (ixaS 3 (t 153) (t 154)),ca 156 3 155,cO 157 (ixaS 3 (t 145) (t 146)),a8 3 157 152,cO 158 (ixaS 3 (t 147) (t 148)),a8 3 158 156]).seq (ac [aa 159 12,aq 160 .add 159 1,aa 12 160] (ops 0 [aa 161 13,aq 162 .sub 161 1,aa 13 162]))))))).loop).seq ((ops 1 [aa 163 0,aa 164 13,aa 165 0,aa 166 1,aa 167 0,aa 168 1,cO 169 (ixaS 3 (t 167) (t 168)),ca 170 3 169,aa 171 0,aa 172 13,cO 173 (ixaS 3 (t 171) (t 172)),ca 174 3 173,cO 175 (ixaS 3 (t 163) (t 164)),a8 3 175 170,cO 176 (ixaS 3 (t 165) (t 166)),a8 3 176 174]).seq (ac [aa 177 13,aa 10 177,cO 11 (mov bf)] ret)))))))))))))
theorem DW:Is Tryz.prog 93 b93:=mkI Tryz.func93
def b95:F2:=(F2.mk 25 [RV.t 2] (ac [cO 2 (mov (cN 0))] ((ac [aa 3 0,cO 4 (cB .geq (t 3) (c (AV.int IntKind.u64 (4294967296))))] (aA 4 (ac [aa 5 0,cO 6 (cB .shr (t 5) (c (AV.int IntKind.u64 (32)))),aa 0 6] (ops 0 [cO 2 (mov (cN 32))])) skip)).seq ((ac [aa 7 0,cO 8 (cB .geq (t 7) (c (AV.int IntKind.u64 (65536))))] (aA 8 (ac [aa 9 0,cO 10 (cB .shr (t 9) (c (AV.int IntKind.u64 (16)))),aa 0 10] (ops 0 [aa 11 2,aq 12 .add 11 16,aa 2 12])) skip)).seq ((ac [aa 13 0,cO 14 (cB .geq (t 13) (c (AV.int IntKind.u64 (256))))] (aA 14 (ac [aa 15 0,cO 16 (cB .shr (t 15) (c (AV.int IntKind.u64 (8)))),aa 0 16] (ops 0 [aa 17 2,aq 18 .add 17 8,aa 2 18])) skip)).seq (ac [aa 19 2,aa 20 0,cO 21 (conv IntKind.u8 (t 20)),cO 22 (ixStr (c (AV.str (ByteArray.mk (Array.mk [0,1,2,2,3,3,3,3,4,4,4,4,4,4,4,4,5,5,5,5,5,5,5,5,5,5,5,5,5,5,5,5,6,6,6,6,6,6,6,6,6,6,6,6,6,6,6,6,6,6,6,6,6,6,6,6,6,6,6,6,6,6,6,6,7,7,7,7,7,7,7,7,7,7,7,7,7,7,7,7,7,7,7,7,7,7,7,7,7,7,7,7,7,7,7,7,7,7,7,7,7,7,7,7,7,7,7,7,7,7,7,7,7,7,7,7,7,7,7,7,7,7,7,7,7,7,7,7,8,8,8,8,8,8,8,8,8,8,8,8,8,8,8,8,8,8,8,8,8,8,8,8,8,8,8,8,8,8,8,8,8,8,8,8,8,8,8,8,8,8,8,8,8,8,8,8,8,8,8,8,8,8,8,8,8,8,8,8,8,8,8,8,8,8,8,8,8,8,8,8,8,8,8,8,8,8,8,8,8,8,8,8,8,8,8,8,8,8,8,8,8,8,8,8,8,8,8,8,8,8,8,8,8,8,8,8,8,8,8,8,8,8,8,8,8,8,8,8,8,8,8,8,8,8,8,8])))) (t 21)),cO 23 (conv IntKind.i64 (t 22)),aF 24 .add 19 23,aa 2 24] ret))))))
theorem pg:Is Tryz.prog 95 b95:=mkI Tryz.func95
def b96:F2:=(F2.mk 8 [RV.t 3] (ac [cO 3 (mov bf)] (ac [aE 4 1,aa 5 0,aL 6 97 [t 4,t 5],cO 7 (un UnOp.not (t 6)),aa 3 7] ret)))
theorem DJ:Is Tryz.prog 96 b96:=mkI Tryz.func96
def b97:F2:=(F2.mk 9 [RV.t 4] (ac [cO 4 (mov bf)] (ac [aa 5 0,aa 6 1,aL 7 122 [t 5,t 6],aq 8 .geq 7 0,aa 4 8] ret)))
theorem BR:Is Tryz.prog 97 b97:=mkI Tryz.func97
def b98:F2:=(F2.mk 38 [] (ac [aE 6 1,cO 7 (mks 1 8 [aP] (t 6) (t 6)),aa 4 7] (block 0 (block 1 ((ac [aa 8 0,aa 9 4,cO 10 (call (t 8) [t 9]),cO 11 (un UnOp.not (t 10))] (aA 11 ret skip)).seq (ac [aE 12 1,aq 13 .sub 12 1,aa 5 13] ((block 2 (((ops 1 [aa 14 5,aq 15 .geq 14 0,aa 16 15,ah 17 16 (cM 4),ah 18 16 (cM 5),ah 19 16 (ixaS 1 (t 17) (t 18)),ah 20 16 (cD 19),ah 21 16 (cD 2),ah 22 16 (cB .sub (t 21) (cN 1)),ah 23 16 (cB .eql (t 20) (t 22)),cO 24 (pick (t 16) (t 23) bf)]).seq (aA 24 skip (exit 2))).seq (block 3 (ac [aa 25 4,aa 26 5,cO 27 (ixaS 1 (t 25) (t 26)),Op2.mk none none (Ins.st 1 (t 27) (cN 0))] (ops 0 [aa 28 5,aq 29 .sub 28 1,aa 5 29])))).loop).seq ((ac [aa 30 5,aq 31 .lss 30 0] (aA 31 ret skip)).seq (ops 0 [aa 32 4,aa 33 5,cO 34 (ixaS 1 (t 32) (t 33)),aE 35 34,aq 36 .add 35 1,cO 37 (ixaS 1 (t 32) (t 33)),a8 1 37 36])))))).loop)))
theorem D3:Is Tryz.prog 98 b98:=mkI Tryz.func98
def b99:F2:=(F2.mk 49 [] (ac [aa 8 1,aq 9 .add 8 1,aa 6 9] (block 0 ((ac [aa 10 6,aa 11 2,aF 12 .lss 10 11] (aA 12 skip (exit 0))).seq ((block 1 (ac [aa 15 6,aa 7 15] (block 2 (((mixS 1 [aa 16 7,aa 17 1,aF 18 .gtr 16 17,aa 19 18,ah 20 19 (cM 0),ah 21 19 (cM 7),ah 22 19 (ixaS 1 (t 20) (t 21)),ah 23 19 (cD 22),ah 24 19 (cM 0),ah 25 19 (cM 7),ah 26 19 (cB .sub (t 25) (cN 1)),ah 27 19 (ixaS 1 (t 24) (t 26)),ah 28 19 (cD 27),ah 29 19 (call (cF 105) [t 23,t 28]),cO 30 (pick (t 19) (t 29) bf)] [(0,0),(1,0),(2,0),(3,0),(4,0),(5,0),(6,0),(7,0),(8,0),(9,0),(10,0),(11,0),(12,0),(13,2),(14,0)]).seq (aA 30 skip (exit 2))).seq ((block 3 (ops 1 [aa 33 0,aa 34 7,aa 35 0,aa 36 7,aq 37 .sub 36 1,aa 38 0,aa 39 7,aq 40 .sub 39 1,cO 41 (ixaS 1 (t 38) (t 40)),aE 42 41,aa 43 0,aa 44 7,cO 45 (ixaS 1 (t 43) (t 44)),aE 46 45,cO 47 (ixaS 1 (t 33) (t 34)),a8 1 47 42,cO 48 (ixaS 1 (t 35) (t 37)),a8 1 48 46])).seq (ops 0 [aa 31 7,aq 32 .sub 31 1,aa 7 32]))).loop))).seq (ops 0 [aa 13 6,aq 14 .add 13 1,aa 6 14]))).loop)))
theorem Dg:Is Tryz.prog 99 b99:=mkI Tryz.func99
def Cl:F2:=(F2.mk 17 [RV.t 4] (ac [cO 4 (mov bf)] (ac [aa 5 0,aL 6 126 [t 5],aa 7 6,ah 8 7 (cM 1),ah 9 7 (call (cF 126) [t 8]),ah 10 7 (un UnOp.not (t 9)),cO 11 (pick (t 7) (t 10) bf),aa 12 11,aN 13 12 (cM 0),aN 14 12 (cM 1),aN 15 12 (cB .lss (t 13) (t 14)),cO 16 (pick (t 12) bV (t 15)),aa 4 16] ret)))
theorem Cy:Is Tryz.prog 105 Cl:=mkI Tryz.func105
def Aq:F2:=(F2.mk 19 [RV.t 4] (ac [cO 4 (mov (cN 0))] ((ac [aa 6 0,cm 7 6,cO 8 (mov (cN 0))] (block 0 (ac [aF 9 .lss 8 7] ((aA 9 skip (exit 0)).seq ((block 1 (ac [aa 10 8,aa 5 10] (ac [aa 11 1,aa 12 0,aa 13 5,cO 14 (ixaS 1 (t 12) (t 13)),aE 15 14,cO 16 (call (t 11) [t 15])] (aA 16 (ac [aa 17 5,aa 4 17] ret) skip)))).seq (ops 0 [aq 18 .add 8 1,aa 8 18])))).loop)).seq (ac [cO 4 (mov (cN ((-1))))] ret))))
theorem Ae:Is Tryz.prog 108 Aq:=mkI Tryz.func108
def AO:F2:=(F2.mk 53 [] (ac [aa 10 1,aq 11 .add 10 1,aa 8 11] (block 0 ((ac [aa 12 8,aa 13 2,aF 14 .lss 12 13] (aA 14 skip (exit 0))).seq ((block 1 (ac [aa 17 8,aa 9 17] (block 2 (((mixS 1 [aa 18 9,aa 19 1,aF 20 .gtr 18 19,aa 21 20,ah 22 21 (cM 3),ah 23 21 (cM 0),ah 24 21 (cM 9),ah 25 21 (ixaS 1 (t 23) (t 24)),ah 26 21 (cD 25),ah 27 21 (cM 0),ah 28 21 (cM 9),ah 29 21 (cB .sub (t 28) (cN 1)),ah 30 21 (ixaS 1 (t 27) (t 29)),ah 31 21 (cD 30),ah 32 21 (call (t 22) [t 26,t 31]),ah 33 21 (cB .lss (t 32) (cN 0)),cO 34 (pick (t 21) (t 33) bf)] [(0,0),(1,0),(2,0),(3,0),(4,0),(5,0),(6,0),(7,0),(8,0),(9,0),(10,0),(11,0),(12,0),(13,0),(14,2),(15,0),(16,0)]).seq (aA 34 skip (exit 2))).seq ((block 3 (ops 1 [aa 37 0,aa 38 9,aa 39 0,aa 40 9,aq 41 .sub 40 1,aa 42 0,aa 43 9,aq 44 .sub 43 1,cO 45 (ixaS 1 (t 42) (t 44)),aE 46 45,aa 47 0,aa 48 9,cO 49 (ixaS 1 (t 47) (t 48)),aE 50 49,cO 51 (ixaS 1 (t 37) (t 38)),a8 1 51 46,cO 52 (ixaS 1 (t 39) (t 41)),a8 1 52 50])).seq (ops 0 [aa 35 9,aq 36 .sub 35 1,aa 9 36]))).loop))).seq (ops 0 [aa 15 8,aq 16 .add 15 1,aa 8 16]))).loop)))
theorem zQ:Is Tryz.prog 109 AO:=mkI Tryz.func109
def Bm:F2:=(F2.mk 60 [] (ac [aa 13 1,aa 8 13] (ac [cO 9 (mov (cN 0))] (ac [aa 14 2,aa 15 1,aF 16 .sub 14 15,aa 10 16] ((ac [aa 17 10,aq 18 .sub 17 1,aq 19 .quo 18 2,aa 11 19] (block 0 ((ac [aa 20 11,aq 21 .geq 20 0] (aA 21 skip (exit 0))).seq ((block 1 (ops 0 [aa 24 0,aa 25 11,aa 26 10,aa 27 8,aa 28 3,aL 29 127 [t 24,t 25,t 26,t 27,t 28]])).seq (ops 0 [aa 22 11,aq 23 .sub 22 1,aa 11 23]))).loop)).seq (ac [aa 30 10,aq 31 .sub 30 1,aa 12 31] (block 2 ((ac [aa 32 12,aq 33 .geq 32 0] (aA 33 skip (exit 2))).seq ((block 3 ((ops 1 [aa 36 0,aa 37 8,aa 38 0,aa 39 8,aa 40 12,aF 41 .add 39 40,aa 42 0,aa 43 8,aa 44 12,aF 45 .add 43 44,cO 46 (ixaS 1 (t 42) (t 45)),aE 47 46,aa 48 0,aa 49 8,cO 50 (ixaS 1 (t 48) (t 49)),aE 51 50,cO 52 (ixaS 1 (t 36) (t 37)),a8 1 52 47,cO 53 (ixaS 1 (t 38) (t 41)),a8 1 53 51]).seq (ops 0 [aa 54 0,aa 55 9,aa 56 12,aa 57 8,aa 58 3,aL 59 127 [t 54,t 55,t 56,t 57,t 58]]))).seq (ops 0 [aa 34 12,aq 35 .sub 34 1,aa 12 35]))).loop)))))))
theorem BQ:Is Tryz.prog 110 Bm:=mkI Tryz.func110
def Ba:F2:=(F2.mk 67 [] (ac [aa 13 2,aa 14 1,aF 15 .sub 13 14,aa 8 15] (ac [aa 16 8,aq 17 .geq 16 8] (aA 17 (ac [aa 18 8,cO 19 (conv IntKind.u64 (t 18)),cO 9 (alloc (AV.int IntKind.u64 (0))),a8 1 9 19] (ac [aa 20 8,aL 21 118 [t 20],aa 10 21] (ac [aa 22 1,aa 23 8,aq 24 .quo 23 4,aq 25 .mul 24 2,aF 26 .add 22 25,aq 27 .sub 26 1,aa 11 27] (block 0 ((ac [aa 28 11,aa 29 1,aa 30 8,aq 31 .quo 30 4,aq 32 .mul 31 2,aF 33 .add 29 32,aq 34 .add 33 1,aF 35 .leq 28 34] (aA 35 skip (exit 0))).seq ((block 1 (ac [aL 38 119 [t 9],aa 39 10,cO 40 (cB .sub (t 39) (c (AV.int IntKind.u64 (1)))),aF 41 .and 38 40,cO 42 (conv IntKind.i64 (t 41)),aa 12 42] ((ac [aa 43 12,aa 44 8,aF 45 .geq 43 44] (aA 45 (ops 0 [aa 46 12,aa 47 8,aF 48 .sub 46 47,aa 12 48]) skip)).seq (ops 1 [aa 49 0,aa 50 11,aa 51 0,aa 52 1,aa 53 12,aF 54 .add 52 53,aa 55 0,aa 56 1,aa 57 12,aF 58 .add 56 57,cO 59 (ixaS 1 (t 55) (t 58)),aE 60 59,aa 61 0,aa 62 11,cO 63 (ixaS 1 (t 61) (t 62)),aE 64 63,cO 65 (ixaS 1 (t 49) (t 50)),a8 1 65 60,cO 66 (ixaS 1 (t 51) (t 54)),a8 1 66 64])))).seq (ops 0 [aa 36 11,aq 37 .add 36 1,aa 11 37]))).loop)))) skip))))
theorem CC:Is Tryz.prog 111 Ba:=mkI Tryz.func111
def BN:F2:=(F2.mk 63 [RV.t 8,RV.t 9] (ac [cO 8 (mov (cN 0)),cO 9 (mov (cN 0))] (ac [aa 15 2,aa 16 1,aF 17 .sub 15 16,aa 10 17] (ac [cO 11 (alloc (aP))] (ac [aa 18 1,aa 19 10,aq 20 .quo 19 4,aq 21 .mul 20 1,aF 22 .add 18 21,aa 12 22] (ac [aa 23 1,aa 24 10,aq 25 .quo 24 4,aq 26 .mul 25 2,aF 27 .add 23 26,aa 13 27] (ac [aa 28 1,aa 29 10,aq 30 .quo 29 4,aq 31 .mul 30 3,aF 32 .add 28 31,aa 14 32] ((ac [aa 33 10,aq 34 .geq 33 8] (aA 34 ((ac [aa 35 10,aq 36 .geq 35 50] (aA 36 (ac [aa 37 0,aa 38 12,aa 39 3,aL 40 128 [t 37,t 38,t 11,t 39],aa 12 40] (ac [aa 41 0,aa 42 13,aa 43 3,aL 44 128 [t 41,t 42,t 11,t 43],aa 13 44] (ops 0 [aa 45 0,aa 46 14,aa 47 3,aL 48 128 [t 45,t 46,t 11,t 47],aa 14 48]))) skip)).seq (ops 0 [aa 49 0,aa 50 12,aa 51 13,aa 52 14,aa 53 3,aL 54 129 [t 49,t 50,t 51,t 52,t 11,t 53],aa 13 54])) skip)).seq (ac [aE 55 11] (block 0 (ac [aq 58 .eql 55 0,aa 57 58] (aA 57 (ac [aa 59 13,aa 8 59,cO 9 (mov (cN 1))] ret) (ac [aq 61 .eql 55 12,aa 60 61] (aA 60 (ac [aa 62 13,aa 8 62,cO 9 (mov (cN 2))] ret) (ac [aa 56 13,aa 8 56,cO 9 (mov (cN 0))] ret)))))))))))))))
theorem BW:Is Tryz.prog 112 BN:=mkI Tryz.func112
def BB:F2:=(F2.mk 34 [] (ac [aa 10 1,aa 8 10] (ac [aa 11 2,aq 12 .sub 11 1,aa 9 12] (block 0 ((ac [aa 13 8,aa 14 9,aF 15 .lss 13 14] (aA 15 skip (exit 0))).seq (block 1 ((ops 1 [aa 16 0,aa 17 8,aa 18 0,aa 19 9,aa 20 0,aa 21 9,cO 22 (ixaS 1 (t 20) (t 21)),aE 23 22,aa 24 0,aa 25 8,cO 26 (ixaS 1 (t 24) (t 25)),aE 27 26,cO 28 (ixaS 1 (t 16) (t 17)),a8 1 28 23,cO 29 (ixaS 1 (t 18) (t 19)),a8 1 29 27]).seq (ac [aa 30 8,aq 31 .add 30 1,aa 8 31] (ops 0 [aa 32 9,aq 33 .sub 32 1,aa 9 33]))))).loop))))
theorem CI:Is Tryz.prog 113 BB:=mkI Tryz.func113
def Cc:F2:=(F2.mk 141 [RV.t 8] (ac [cO 8 (mov bf)] (ac [aa 13 1,aq 14 .add 13 1,aa 9 14] ((ac [cO 10 (mov (cN 0))] (block 0 ((ac [aa 15 10,aq 16 .lss 15 5] (aA 16 skip (exit 0))).seq ((block 1 ((block 2 (((mixS 1 [aa 19 9,aa 20 2,aF 21 .lss 19 20,aa 22 21,ah 23 22 (cM 3),ah 24 22 (cM 0),ah 25 22 (cM 9),ah 26 22 (ixaS 1 (t 24) (t 25)),ah 27 22 (cD 26),ah 28 22 (cM 0),ah 29 22 (cM 9),ah 30 22 (cB .sub (t 29) (cN 1)),ah 31 22 (ixaS 1 (t 28) (t 30)),ah 32 22 (cD 31),ah 33 22 (call (t 23) [t 27,t 32]),ah 34 22 (cB .lss (t 33) (cN 0)),ah 35 22 (un UnOp.not (t 34)),cO 36 (pick (t 22) (t 35) bf)] [(0,0),(1,0),(2,0),(3,0),(4,0),(5,0),(6,0),(7,0),(8,0),(9,0),(10,0),(11,0),(12,0),(13,0),(14,2),(15,0),(16,0),(17,0)]).seq (aA 36 skip (exit 2))).seq (block 3 (ops 0 [aa 37 9,aq 38 .add 37 1,aa 9 38]))).loop).seq ((ac [aa 39 9,aa 40 2,aF 41 .eql 39 40] (aA 41 (ac [cO 8 (mov bV)] ret) skip)).seq ((ac [aa 42 2,aa 43 1,aF 44 .sub 42 43,aq 45 .lss 44 50] (aA 45 (ac [cO 8 (mov bf)] ret) skip)).seq ((ops 1 [aa 46 0,aa 47 9,aa 48 0,aa 49 9,aq 50 .sub 49 1,aa 51 0,aa 52 9,aq 53 .sub 52 1,cO 54 (ixaS 1 (t 51) (t 53)),aE 55 54,aa 56 0,aa 57 9,cO 58 (ixaS 1 (t 56) (t 57)),aE 59 58,cO 60 (ixaS 1 (t 46) (t 47)),a8 1 60 55,cO 61 (ixaS 1 (t 48) (t 50)),a8 1 61 59]).seq ((ac [aa 62 9,aa 63 1,aF 64 .sub 62 63,aq 65 .geq 64 2] (aA 65 (ac [aa 66 9,aq 67 .sub 66 1,aa 11 67] (block 4 ((ac [aa 68 11,aq 69 .geq 68 1] (aA 69 skip (exit 4))).seq ((block 5 (((mixS 1 [aa 72 3,aa 73 0,aa 74 11,cO 75 (ixaS 1 (t 73) (t 74)),aE 76 75,aa 77 0,aa 78 11,aq 79 .sub 78 1,cO 80 (ixaS 1 (t 77) (t 79)),aE 81 80,cO 82 (call (t 72) [t 76,t 81]),aq 83 .lss 82 0,cO 84 (un UnOp.not (t 83))] [(0,0),(1,0),(2,0),(3,0),(4,0),(5,0),(6,0),(7,0),(8,0),(9,0),(10,2),(11,0),(12,0)]).seq (aA 84 (exit 4) skip)).seq (ops 1 [aa 85 0,aa 86 11,aa 87 0,aa 88 11,aq 89 .sub 88 1,aa 90 0,aa 91 11,aq 92 .sub 91 1,cO 93 (ixaS 1 (t 90) (t 92)),aE 94 93,aa 95 0,aa 96 11,cO 97 (ixaS 1 (t 95) (t 96)),aE 98 97,cO 99 (ixaS 1 (t 85) (t 86)),a8 1 99 94,cO 100 (ixaS 1 (t 87) (t 89)),a8 1 100 98]))).seq (ops 0 [aa 70 11,aq 71 .sub 70 1,aa 11 71]))).loop)) skip)).seq (ac [aa 101 2,aa 102 9,aF 103 .sub 101 102,aq 104 .geq 103 2] (aA 104 (ac [aa 105 9,aq 106 .add 105 1,aa 12 106] (block 6 ((ac [aa 107 12,aa 108 2,aF 109 .lss 107 108] (aA 109 skip (exit 6))).seq ((block 7 (((mixS 1 [aa 112 3,aa 113 0,aa 114 12,cO 115 (ixaS 1 (t 113) (t 114)),aE 116 115,aa 117 0,aa 118 12,aq 119 .sub 118 1,cO 120 (ixaS 1 (t 117) (t 119)),aE 121 120,cO 122 (call (t 112) [t 116,t 121]),aq 123 .lss 122 0,cO 124 (un UnOp.not (t 123))] [(0,0),(1,0),(2,0),(3,0),(4,0),(5,0),(6,0),(7,0),(8,0),(9,0),(10,2),(11,0),(12,0)]).seq (aA 124 (exit 6) skip)).seq (ops 1 [aa 125 0,aa 126 12,aa 127 0,aa 128 12,aq 129 .sub 128 1,aa 130 0,aa 131 12,aq 132 .sub 131 1,cO 133 (ixaS 1 (t 130) (t 132)),aE 134 133,aa 135 0,aa 136 12,cO 137 (ixaS 1 (t 135) (t 136)),aE 138 137,cO 139 (ixaS 1 (t 125) (t 126)),a8 1 139 134,cO 140 (ixaS 1 (t 127) (t 129)),a8 1 140 138]))).seq (ops 0 [aa 110 12,aq 111 .add 110 1,aa 12 111]))).loop)) skip)))))))).seq (ops 0 [aa 17 10,aq 18 .add 17 1,aa 10 18]))).loop)).seq (ac [cO 8 (mov bf)] ret)))))
theorem Cu:Is Tryz.prog 114 Cc:=mkI Tryz.func114
def B4:F2:=(F2.mk 90 [RV.t 10] (ac [cO 10 (mov (cN 0))] ((ops 1 [aa 13 0,aa 14 1,aa 15 0,aa 16 3,aa 17 0,aa 18 3,cO 19 (ixaS 1 (t 17) (t 18)),aE 20 19,aa 21 0,aa 22 1,cO 23 (ixaS 1 (t 21) (t 22)),aE 24 23,cO 25 (ixaS 1 (t 13) (t 14)),a8 1 25 20,cO 26 (ixaS 1 (t 15) (t 16)),a8 1 26 24]).seq (ac [aa 27 1,aq 28 .add 27 1,aa 29 2,aq 30 .sub 29 1,aa 11 28,aa 12 30] ((block 0 (block 1 ((block 2 (((mixS 1 [aa 31 11,aa 32 12,aF 33 .leq 31 32,aa 34 33,ah 35 34 (cM 4),ah 36 34 (cM 0),ah 37 34 (cM 1),ah 38 34 (ixaS 1 (t 36) (t 37)),ah 39 34 (cD 38),ah 40 34 (cM 0),ah 41 34 (cM 11),ah 42 34 (ixaS 1 (t 40) (t 41)),ah 43 34 (cD 42),ah 44 34 (call (t 35) [t 39,t 43]),ah 45 34 (cB .lss (t 44) (cN 0)),ah 46 34 (un UnOp.not (t 45)),cO 47 (pick (t 34) (t 46) bf)] [(0,0),(1,0),(2,0),(3,0),(4,0),(5,0),(6,0),(7,0),(8,0),(9,0),(10,0),(11,0),(12,0),(13,2),(14,0),(15,0),(16,0)]).seq (aA 47 skip (exit 2))).seq (block 3 (ops 0 [aa 48 11,aq 49 .add 48 1,aa 11 49]))).loop).seq ((block 4 (((mixS 1 [aa 50 11,aa 51 12,aF 52 .leq 50 51,aa 53 52,ah 54 53 (cM 4),ah 55 53 (cM 0),ah 56 53 (cM 1),ah 57 53 (ixaS 1 (t 55) (t 56)),ah 58 53 (cD 57),ah 59 53 (cM 0),ah 60 53 (cM 12),ah 61 53 (ixaS 1 (t 59) (t 60)),ah 62 53 (cD 61),ah 63 53 (call (t 54) [t 58,t 62]),ah 64 53 (cB .lss (t 63) (cN 0)),cO 65 (pick (t 53) (t 64) bf)] [(0,0),(1,0),(2,0),(3,0),(4,0),(5,0),(6,0),(7,0),(8,0),(9,0),(10,0),(11,0),(12,0),(13,2),(14,0),(15,0)]).seq (aA 65 skip (exit 4))).seq (block 5 (ops 0 [aa 66 12,aq 67 .sub 66 1,aa 12 67]))).loop).seq ((ac [aa 68 11,aa 69 12,aF 70 .gtr 68 69] (aA 70 (exit 0) skip)).seq ((ops 1 [aa 71 0,aa 72 11,aa 73 0,aa 74 12,aa 75 0,aa 76 12,cO 77 (ixaS 1 (t 75) (t 76)),aE 78 77,aa 79 0,aa 80 11,cO 81 (ixaS 1 (t 79) (t 80)),aE 82 81,cO 83 (ixaS 1 (t 71) (t 72)),a8 1 83 78,cO 84 (ixaS 1 (t 73) (t 74)),a8 1 84 82]).seq (ac [aa 85 11,aq 86 .add 85 1,aa 11 86] (ops 0 [aa 87 12,aq 88 .sub 87 1,aa 12 88]))))))).loop).seq (ac [aa 89 11,aa 10 89] ret))))))
theorem BU:Is Tryz.prog 115 B4:=mkI Tryz.func115
def BM:F2:=(F2.mk 178 [RV.t 10,RV.t 11] (ac [cO 10 (mov (cN 0)),cO 11 (mov bf)] ((ops 1 [aa 14 0,aa 15 1,aa 16 0,aa 17 3,aa 18 0,aa 19 3,cO 20 (ixaS 1 (t 18) (t 19)),aE 21 20,aa 22 0,aa 23 1,cO 24 (ixaS 1 (t 22) (t 23)),aE 25 24,cO 26 (ixaS 1 (t 14) (t 15)),a8 1 26 21,cO 27 (ixaS 1 (t 16) (t 17)),a8 1 27 25]).seq (ac [aa 28 1,aq 29 .add 28 1,aa 30 2,aq 31 .sub 30 1,aa 12 29,aa 13 31] ((block 0 (((mixS 1 [aa 32 12,aa 33 13,aF 34 .leq 32 33,aa 35 34,ah 36 35 (cM 4),ah 37 35 (cM 0),ah 38 35 (cM 12),ah 39 35 (ixaS 1 (t 37) (t 38)),ah 40 35 (cD 39),ah 41 35 (cM 0),ah 42 35 (cM 1),ah 43 35 (ixaS 1 (t 41) (t 42)),ah 44 35 (cD 43),ah 45 35 (call (t 36) [t 40,t 44]),ah 46 35 (cB .lss (t 45) (cN 0)),cO 47 (pick (t 35) (t 46) bf)] [(0,0),(1,0),(2,0),(3,0),(4,0),(5,0),(6,0),(7,0),(8,0),(9,0),(10,0),(11,0),(12,0),(13,2),(14,0),(15,0)]).seq (aA 47 skip (exit 0))).seq (block 1 (ops 0 [aa 48 12,aq 49 .add 48 1,aa 12 49]))).loop).seq ((block 2 (((mixS 1 [aa 50 12,aa 51 13,aF 52 .leq 50 51,aa 53 52,ah 54 53 (cM 4),ah 55 53 (cM 0),ah 56 53 (cM 13),ah 57 53 (ixaS 1 (t 55) (t 56)),ah 58 53 (cD 57),ah 59 53 (cM 0),ah 60 53 (cM 1),ah 61 53 (ixaS 1 (t 59) (t 60)),ah 62 53 (cD 61),ah 63 53 (call (t 54) [t 58,t 62]),ah 64 53 (cB .lss (t 63) (cN 0)),ah 65 53 (un UnOp.not (t 64)),cO 66 (pick (t 53) (t 65) bf)] [(0,0),(1,0),(2,0),(3,0),(4,0),(5,0),(6,0),(7,0),(8,0),(9,0),(10,0),(11,0),(12,0),(13,2),(14,0),(15,0),(16,0)]).seq (aA 66 skip (exit 2))).seq (block 3 (ops 0 [aa 67 13,aq 68 .sub 67 1,aa 13 68]))).loop).seq ((ac [aa 69 12,aa 70 13,aF 71 .gtr 69 70] (aA 71 ((ops 1 [aa 72 0,aa 73 13,aa 74 0,aa 75 1,aa 76 0,aa 77 1,cO 78 (ixaS 1 (t 76) (t 77)),aE 79 78,aa 80 0,aa 81 13,cO 82 (ixaS 1 (t 80) (t 81)),aE 83 82,cO 84 (ixaS 1 (t 72) (t 73)),a8 1 84 79,cO 85 (ixaS 1 (t 74) (t 75)),a8 1 85 83]).seq (ac [aa 86 13,aa 10 86,cO 11 (mov bV)] ret)) skip)).seq ((ops 1 [aa 87 0,aa 88 12,aa 89 0,aa 90 13,aa 91 0,aa 92 13,cO 93 (ixaS 1 (t 91) (t 92)),aE 94 93,aa 95 0,aa 96 12,cO 97 (ixaS 1 (t 95) (t 96)),aE 98 97,cO 99 (ixaS 1 (t 87) (t 88)),a8 1 99 94,cO 100 (ixaS 1 (t 89) (t 90)),a8 1 100 98]).seq (ac [aa 101 12,aq 102 .add 101 1,aa 12 102] (ac [aa 103 13,aq 104 .sub 103 1,aa 13 104] ((block 4 (block 5 ((block 6 (((mixS 1 [aa 105 12,aa 106 13,aF 107 .leq 105 106,aa 108 107,ah 109 108 (cM 4),ah 110 108 (cM 0),ah 111 108 (cM 12),ah 112 108 (ixaS 1 (t 110) (t 111)),ah 113 108 (cD 112),ah 114 108 (cM 0),ah 115 108 (cM 1),ah 116 108 (ixaS 1 (t 114) (t 115)),ah 117 108 (cD 116),ah 118 108 (call (t 109) [t 113,t 117]),ah 119 108 (cB .lss (t 118) (cN 0)),cO 120 (pick (t 108) (t 119) bf)] [(0,0),(1,0),(2,0),(3,0),(4,0),(5,0),(6,0),(7,0),(8,0),(9,0),(10,0),(11,0),(12,0),(13,2),(14,0),(15,0)]).seq (aA 120 skip (exit 6))).seq (block 7 (ops 0 [aa 121 12,aq 122 .add 121 1,aa 12 122]))).loop).seq ((block 8 (((mixS 1 [aa 123 12,aa 124 13,aF 125 .leq 123 124,aa 126 125,ah 127 126 (cM 4),ah 128 126 (cM 0),ah 129 126 (cM 13),ah 130 126 (ixaS 1 (t 128) (t 129)),ah 131 126 (cD 130),ah 132 126 (cM 0),ah 133 126 (cM 1),ah 134 126 (ixaS 1 (t 132) (t 133)),ah 135 126 (cD 134),ah 136 126 (call (t 127) [t 131,t 135]),ah 137 126 (cB .lss (t 136) (cN 0)),ah 138 126 (un UnOp.not (t 137)),cO 139 (pick (t 126) (t 138) bf)] [(0,0),(1,0),(2,0),(3,0),(4,0),(5,0),(6,0),(7,0),(8,0),(9,0),(10,0),(11,0),(12,0),(13,2),(14,0),(15,0),(16,0)]).seq (aA 139 skip (exit 8))).seq (block 9 (ops 0 [aa 140 13,aq 141 .sub 140 1,aa 13 141]))).loop).seq ((ac [aa 142 12,aa 143 13,aF 144 .gtr 142 143] (aA 144 (exit 4) skip)).seq ((ops 1 [aa 145 0,aa 146 12,aa 147 0,aa 148 13,aa 149 0,aa 150 13,cO 151 (ixaS 1 (t 149) (t 150)),aE 152 151,aa 153 0,aa 154 12,cO 155 (ixaS 1 (t 153) (t 154)),aE 156 155,cO 157 (ixaS 1 (t 145) (t 146)),a8 1 157 152,cO 158 (ixaS 1 (t 147) (t 148)),a8 1 158 156]).seq (ac [aa 159 12,aq 160 .add 159 1,aa 12 160] (ops 0 [aa 161 13,aq 162 .sub 161 1,aa 13 162]))))))).loop).seq ((ops 1 [aa 163 0,aa 164 13,aa 165 0,aa 166 1,aa 167 0,aa 168 1,cO 169 (ixaS 1 (t 167) (t 168)),aE 170 169,aa 171 0,aa 172 13,cO 173 (ixaS 1 (t 171) (t 172)),aE 174 173,cO 175 (ixaS 1 (t 163) (t 164)),a8 1 175 170,cO 176 (ixaS 1 (t 165) (t 166)),a8 1 176 174]).seq (ac [aa 177 13,aa 10 177,cO 11 (mov bf)] ret)))))))))))))
theorem Cg:Is Tryz.prog 116 BM:=mkI Tryz.func116
def CF:F2:=(F2.mk 82 [] (ac [aa 12 1,aa 10 12] (block 0 (block 1 (ac [aa 13 10,cO 14 (cB .mul (cN 2) (t 13)),aq 15 .add 14 1,aa 11 15] ((ac [aa 16 11,aa 17 2,aF 18 .geq 16 17] (aA 18 (exit 0) skip)).seq (((mixS 1 [aa 19 11,aq 20 .add 19 1,aa 21 2,aF 22 .lss 20 21,aa 23 22,ah 24 23 (cM 4),ah 25 23 (cM 0),ah 26 23 (cM 3),ah 27 23 (cM 11),ah 28 23 (cB .add (t 26) (t 27)),ah 29 23 (ixaS 3 (t 25) (t 28)),ah 30 23 (ldn 3 (t 29)),ah 31 23 (cM 0),ah 32 23 (cM 3),ah 33 23 (cM 11),ah 34 23 (cB .add (t 32) (t 33)),ah 35 23 (cB .add (t 34) (cN 1)),ah 36 23 (ixaS 3 (t 31) (t 35)),ah 37 23 (ldn 3 (t 36)),ah 38 23 (call (t 24) [t 30,t 37]),ah 39 23 (cB .lss (t 38) (cN 0)),cO 40 (pick (t 23) (t 39) bf)] [(0,0),(1,0),(2,0),(3,0),(4,0),(5,0),(6,0),(7,0),(8,0),(9,0),(10,0),(11,0),(12,0),(13,0),(14,0),(15,0),(16,0),(17,0),(18,0),(19,2),(20,0),(21,0)]).seq (aA 40 (ops 0 [aa 41 11,aq 42 .add 41 1,aa 11 42]) skip)).seq (((mixS 1 [aa 43 4,aa 44 0,aa 45 3,aa 46 10,aF 47 .add 45 46,cO 48 (ixaS 3 (t 44) (t 47)),ca 49 3 48,aa 50 0,aa 51 3,aa 52 11,aF 53 .add 51 52,cO 54 (ixaS 3 (t 50) (t 53)),ca 55 3 54,cO 56 (call (t 43) [t 49,t 55]),aq 57 .lss 56 0,cO 58 (un UnOp.not (t 57))] [(0,0),(1,0),(2,0),(3,0),(4,0),(5,0),(6,0),(7,0),(8,0),(9,0),(10,0),(11,0),(12,0),(13,2),(14,0),(15,0)]).seq (aA 58 ret skip)).seq ((ops 1 [aa 59 0,aa 60 3,aa 61 10,aF 62 .add 60 61,aa 63 0,aa 64 3,aa 65 11,aF 66 .add 64 65,aa 67 0,aa 68 3,aa 69 11,aF 70 .add 68 69,cO 71 (ixaS 3 (t 67) (t 70)),ca 72 3 71,aa 73 0,aa 74 3,aa 75 10,aF 76 .add 74 75,cO 77 (ixaS 3 (t 73) (t 76)),ca 78 3 77,cO 79 (ixaS 3 (t 59) (t 62)),a8 3 79 72,cO 80 (ixaS 3 (t 63) (t 66)),a8 3 80 78]).seq (ops 0 [aa 81 11,aa 10 81]))))))).loop)))
theorem B9:Is Tryz.prog 117 CF:=mkI Tryz.func117
def Bj:F2:=(F2.mk 7 [RV.t 2] (ac [cO 2 (mov (c (AV.int IntKind.u64 (0))))] (ac [aa 3 0,cO 4 (conv IntKind.u64 (t 3)),aL 5 71 [t 4],cO 6 (cB .shl (c (AV.int IntKind.u64 (1))) (t 5)),aa 2 6] ret)))
theorem Cv:Is Tryz.prog 118 Bj:=mkI Tryz.func118
def BC:F2:=(F2.mk 33 [RV.t 2] (ac [cO 2 (mov (c (AV.int IntKind.u64 (0))))] ((ops 1 [aa 3 0,cO 4 (nilck (t 3)),aE 5 4,aa 6 0,cO 7 (nilck (t 6)),aE 8 7,cO 9 (cB .shl (t 8) (c (AV.int IntKind.u64 (13)))),aF 10 .xor 5 9,cO 11 (nilck (t 3)),a8 1 11 10]).seq ((ops 1 [aa 12 0,cO 13 (nilck (t 12)),aE 14 13,aa 15 0,cO 16 (nilck (t 15)),aE 17 16,cO 18 (cB .shr (t 17) (c (AV.int IntKind.u64 (7)))),aF 19 .xor 14 18,cO 20 (nilck (t 12)),a8 1 20 19]).seq ((ops 1 [aa 21 0,cO 22 (nilck (t 21)),aE 23 22,aa 24 0,cO 25 (nilck (t 24)),aE 26 25,cO 27 (cB .shl (t 26) (c (AV.int IntKind.u64 (17)))),aF 28 .xor 23 27,cO 29 (nilck (t 21)),a8 1 29 28]).seq (ac [aa 30 0,cO 31 (nilck (t 30)),aE 32 31,aa 2 32] ret))))))
theorem Co:Is Tryz.prog 119 BC:=mkI Tryz.func119
def Cx:F2:=(F2.mk 18 [RV.t 8] (ac [cO 8 (mov (cN 0))] (ac [aa 9 0,aa 10 1,aq 11 .sub 10 1,aa 12 1,aa 13 1,aq 14 .add 13 1,aa 15 2,aa 16 3,aL 17 121 [t 9,t 11,t 12,t 14,t 15,t 16],aa 8 17] ret)))
theorem A8:Is Tryz.prog 120 Cx:=mkI Tryz.func120
def BX:F2:=(F2.mk 41 [RV.t 12] (ac [cO 12 (mov (cN 0))] (ac [aa 14 0,aa 15 1,aa 16 2,aa 17 4,aa 18 5,aL 19 130 [t 14,t 15,t 16,t 17,t 18],aa 13 19,bF 20 13 0,bF 21 13 1,aa 1 20,aa 2 21] (ac [aa 23 0,aa 24 2,aa 25 3,aa 26 4,aa 27 5,aL 28 130 [t 23,t 24,t 25,t 26,t 27],aa 22 28,bF 29 22 0,bF 30 22 1,aa 2 29,aa 3 30] (ac [aa 32 0,aa 33 1,aa 34 2,aa 35 4,aa 36 5,aL 37 130 [t 32,t 33,t 34,t 35,t 36],aa 31 37,bF 38 31 0,bF 39 31 1,aa 1 38,aa 2 39] (ac [aa 40 2,aa 12 40] ret))))))
theorem CD:Is Tryz.prog 121 BX:=mkI Tryz.func121
def Ay:F2:=(F2.mk 19 [RV.t 4] (ac [cO 4 (mov (cN 0))] ((ac [aa 6 0,cm 7 6,cO 8 (mov (cN 0))] (block 0 (ac [aF 9 .lss 8 7] ((aA 9 skip (exit 0)).seq ((block 1 (ac [aa 10 8,aa 5 10] (ac [aa 11 1,aa 12 0,aa 13 5,cO 14 (ixaS 1 (t 12) (t 13)),aE 15 14,aF 16 .eql 11 15] (aA 16 (ac [aa 17 5,aa 4 17] ret) skip)))).seq (ops 0 [aq 18 .add 8 1,aa 8 18])))).loop)).seq (ac [cO 4 (mov (cN ((-1))))] ret))))
theorem zY:Is Tryz.prog 122 Ay:=mkI Tryz.func122
def Bu:F2:=(F2.mk 6 [RV.t 2] (ac [cO 2 (mov bf)] (ac [aa 3 0,aa 4 0,aF 5 .neq 3 4,aa 2 5] ret)))
theorem A9:Is Tryz.prog 126 Bu:=mkI Tryz.func126
def Ci:F2:=(F2.mk 82 [] (ac [aa 12 1,aa 10 12] (block 0 (block 1 (ac [aa 13 10,cO 14 (cB .mul (cN 2) (t 13)),aq 15 .add 14 1,aa 11 15] ((ac [aa 16 11,aa 17 2,aF 18 .geq 16 17] (aA 18 (exit 0) skip)).seq (((mixS 1 [aa 19 11,aq 20 .add 19 1,aa 21 2,aF 22 .lss 20 21,aa 23 22,ah 24 23 (cM 4),ah 25 23 (cM 0),ah 26 23 (cM 3),ah 27 23 (cM 11),ah 28 23 (cB .add (t 26) (t 27)),ah 29 23 (ixaS 1 (t 25) (t 28)),ah 30 23 (cD 29),ah 31 23 (cM 0),ah 32 23 (cM 3),ah 33 23 (cM 11),ah 34 23 (cB .add (t 32) (t 33)),ah 35 23 (cB .add (t 34) (cN 1)),ah 36 23 (ixaS 1 (t 31) (t 35)),ah 37 23 (cD 36),ah 38 23 (call (t 24) [t 30,t 37]),ah 39 23 (cB .lss (t 38) (cN 0)),cO 40 (pick (t 23) (t 39) bf)] [(0,0),(1,0),(2,0),(3,0),(4,0),(5,0),(6,0),(7,0),(8,0),(9,0),(10,0),(11,0),(12,0),(13,0),(14,0),(15,0),(16,0),(17,0),(18,0),(19,2),(20,0),(21,0)]).seq (aA 40 (ops 0 [aa 41 11,aq 42 .add 41 1,aa 11 42]) skip)).seq (((mixS 1 [aa 43 4,aa 44 0,aa 45 3,aa 46 10,aF 47 .add 45 46,cO 48 (ixaS 1 (t 44) (t 47)),aE 49 48,aa 50 0,aa 51 3,aa 52 11,aF 53 .add 51 52,cO 54 (ixaS 1 (t 50) (t 53)),aE 55 54,cO 56 (call (t 43) [t 49,t 55]),aq 57 .lss 56 0,cO 58 (un UnOp.not (t 57))] [(0,0),(1,0),(2,0),(3,0),(4,0),(5,0),(6,0),(7,0),(8,0),(9,0),(10,0),(11,0),(12,0),(13,2),(14,0),(15,0)]).seq (aA 58 ret skip)).seq ((ops 1 [aa 59 0,aa 60 3,aa 61 10,aF 62 .add 60 61,aa 63 0,aa 64 3,aa 65 11,aF 66 .add 64 65,aa 67 0,aa 68 3,aa 69 11,aF 70 .add 68 69,cO 71 (ixaS 1 (t 67) (t 70)),aE 72 71,aa 73 0,aa 74 3,aa 75 10,aF 76 .add 74 75,cO 77 (ixaS 1 (t 73) (t 76)),aE 78 77,cO 79 (ixaS 1 (t 59) (t 62)),a8 1 79 72,cO 80 (ixaS 1 (t 63) (t 66)),a8 1 80 78]).seq (ops 0 [aa 81 11,aa 10 81]))))))).loop)))
theorem Be:Is Tryz.prog 127 Ci:=mkI Tryz.func127
def CB:F2:=(F2.mk 18 [RV.t 8] (ac [cO 8 (mov (cN 0))] (ac [aa 9 0,aa 10 1,aq 11 .sub 10 1,aa 12 1,aa 13 1,aq 14 .add 13 1,aa 15 2,aa 16 3,aL 17 129 [t 9,t 11,t 12,t 14,t 15,t 16],aa 8 17] ret)))
theorem BH:Is Tryz.prog 128 CB:=mkI Tryz.func128
def B6:F2:=(F2.mk 41 [RV.t 12] (ac [cO 12 (mov (cN 0))] (ac [aa 14 0,aa 15 1,aa 16 2,aa 17 4,aa 18 5,aL 19 132 [t 14,t 15,t 16,t 17,t 18],aa 13 19,bF 20 13 0,bF 21 13 1,aa 1 20,aa 2 21] (ac [aa 23 0,aa 24 2,aa 25 3,aa 26 4,aa 27 5,aL 28 132 [t 23,t 24,t 25,t 26,t 27],aa 22 28,bF 29 22 0,bF 30 22 1,aa 2 29,aa 3 30] (ac [aa 32 0,aa 33 1,aa 34 2,aa 35 4,aa 36 5,aL 37 132 [t 32,t 33,t 34,t 35,t 36],aa 31 37,bF 38 31 0,bF 39 31 1,aa 1 38,aa 2 39] (ac [aa 40 2,aa 12 40] ret))))))
theorem Bh:Is Tryz.prog 129 B6:=mkI Tryz.func129
def BE:F2:=(F2.mk 32 [RV.t 10,RV.t 11] (ac [cO 10 (mov (cN 0)),cO 11 (mov (cN 0))] (((mixS 1 [aa 12 4,aa 13 0,aa 14 2,cO 15 (ixaS 3 (t 13) (t 14)),ca 16 3 15,aa 17 0,aa 18 1,cO 19 (ixaS 3 (t 17) (t 18)),ca 20 3 19,cO 21 (call (t 12) [t 16,t 20]),aq 22 .lss 21 0] [(0,0),(1,0),(2,0),(3,0),(4,0),(5,0),(6,0),(7,0),(8,0),(9,2),(10,0)]).seq (aA 22 (ac [aa 23 3,cO 24 (nilck (t 23)),aE 25 24,aq 26 .add 25 1,cO 27 (nilck (t 23)),a8 1 27 26] (ac [aa 28 2,aa 29 1,aa 10 28,aa 11 29] ret)) skip)).seq (ac [aa 30 1,aa 31 2,aa 10 30,aa 11 31] ret))))
theorem Cm:Is Tryz.prog 130 BE:=mkI Tryz.func130
def Cp:F2:=(F2.mk 32 [RV.t 10,RV.t 11] (ac [cO 10 (mov (cN 0)),cO 11 (mov (cN 0))] (((mixS 1 [aa 12 4,aa 13 0,aa 14 2,cO 15 (ixaS 1 (t 13) (t 14)),aE 16 15,aa 17 0,aa 18 1,cO 19 (ixaS 1 (t 17) (t 18)),aE 20 19,cO 21 (call (t 12) [t 16,t 20]),aq 22 .lss 21 0] [(0,0),(1,0),(2,0),(3,0),(4,0),(5,0),(6,0),(7,0),(8,0),(9,2),(10,0)]).seq (aA 22 (ac [aa 23 3,cO 24 (nilck (t 23)),aE 25 24,aq 26 .add 25 1,cO 27 (nilck (t 23)),a8 1 27 26] (ac [aa 28 2,aa 29 1,aa 10 28,aa 11 29] ret)) skip)).seq (ac [aa 30 1,aa 31 2,aa 10 30,aa 11 31] ret))))
theorem Ck:Is Tryz.prog 132 Cp:=mkI Tryz.func132
end Go.Proofs.YtcbkggfipdldaaaGreat
namespace Go.Proofs.YtcbkggfipdldaaaGreat
open Go Go.Abs
open Nat (reduceEqDiff reduceAdd reduceLeDiff)
abbrev Sh{α:Type}(l:List α):Prop:=l.length≤17592186044416
structure CaseV where
 inp:List Int
 out:List (List Int)
 calm:List (List Int)
 deriving Inhabited,DecidableEq
structure TaskV where
 n:Int
 ins:Int
 outs:Int
 cases:List CaseV
 deriving Inhabited,DecidableEq
def eb(c:CaseV):AV:=.agg [aC c.inp,bd c.out,bd c.calm]
def encCs(l:List CaseV):AV:=.sl 3 (l.map eb)
def encT(t:TaskV):AV:=.agg [.int .i64 t.n,.int .i64 t.ins,.int .i64 t.outs,encCs t.cases]
def T00:TaskV:=⟨0,0,0,[]⟩
theorem eI{H:Hp}(e:Int):Snap H (.tup [.agg [.int .i64 0,.int .i64 0,.int .i64 0,.esl],.int .i64 e]) (.tup [encT T00,.int .i64 e]):=by
 refine gP (ap (jk ?_) (ap (.int _ _) ai));exact ap (.int _ _) (ap (.int _ _) (ap (.int _ _) (ap (.eslsl 3) ai)))
theorem iV{H:Hp}{d:Nat}{x:AV}:ee 1 (am H d [x]) (.msl d 1 1 0 1)=some (1,[x]):=jc (n:=1) (len:=1) (off:=0) (cs:=[x]) aj rfl (by simp)
theorem gF (l:List CaseV):Dat (encCs l):=Dat.sl (fun x hx c hc=>by
 simp at hx;obtain⟨q,_,rfl⟩:=hx;simp only[eb,AV.cells,fo,List.not_mem_nil,or_false] at hc;rcases hc with rfl|rfl|rfl
 ·exact bw _
 ·exact bi _
 ·exact bi _)
theorem eM(t:TaskV):Dat (encT t):=by
 refine Dat.agg fun x hx=>?_;simp only[fo,List.not_mem_nil,or_false] at hx;rcases hx with rfl|rfl|rfl|rfl
 ·exact .int
 ·exact .int
 ·exact .int
 ·exact gF _
theorem bL(t:TaskV)(e:Int):Dat (.tup [encT t,.int .i64 e]):=Dat.tup (DatL.cons (eM t) (DatL.cons .int DatL.nil))
theorem ba(t:TaskV):(encT t).cells=[.int .i64 t.n,.int .i64 t.ins,.int .i64 t.outs,encCs t.cases]:=rfl
theorem az(l:List CaseV):(encCs l).one=true:=rfl
theorem ar(l:List CaseV):(encCs l).cells=[encCs l]:=rfl
theorem aS(l:List CaseV):dG (encCs l)=some (.int .i64 l.length):=by simp[dG,encCs]
theorem a6{l:List CaseV}{k:Nat}(h:k<l.length):eH 3 (encCs l) (.int .i64 k)=some (.iptr [aC (l.getD k default).inp,bd (l.getD k default).out,bd (l.getD k default).calm] 0):=by
 simp[eH,encCs,h,List.getD,eb,AV.cells]
def ShC(c:CaseV):Prop:=Sh c.inp∧Sh c.out∧(∀x∈c.out,Sh x)∧Sh c.calm∧∀x∈c.calm,Sh x
def bl:List Int→List Int→Int
 |[],[]=>0
 |[],_::_=>-1
 |_::_,[]=>1
 |a::l,b::m=>if a<b then-1 else if a>b then 1 else bl l m
def cE(f:Nat→Int):Nat→Int
 |0=>0
 |n+1=>if cE f n≠0 then cE f n else f n
theorem cL{f:Nat→Int}:∀{n:Nat},(∀i,i<n→f i=0)→cE f n=0
 |0,_=>rfl
 |n+1,h=>by
  have:=cL (f:=f) (n:=n) (fun i hi=>h i (by omega));rw[cE,this,if_neg (by simp)];exact h n (by omega)
theorem dj{f:Nat→Int}:∀{n k:Nat},k<n→(∀i,i<k→f i=0)→f k≠0→cE f n=f k
 |0,k,h,_,_=>absurd h (by omega)
 |n+1,k,h,h0,hk=>by
  rw[cE];by_cases e:k=n
  ·subst e;rw[cL h0,if_neg (by simp)]
  ·rw[dj (n:=n) (by omega) h0 hk,if_pos hk]
theorem dQ{f:Nat→Int}:∀{n:Nat},cE f n=0→∀i,i<n→f i=0
 |0,_,i,h=>absurd h (by omega)
 |n+1,h,i,hi=>by
  rw[cE] at h;by_cases e:cE f n=0
  ·rw[e,if_neg (by simp)] at h;by_cases ei:i=n
   ·subst ei;exact h
   ·exact dQ e i (by omega)
  ·rw[if_pos e] at h;exact absurd h e
def bH(v:List Int)(n most:Int):Int:=if (v.length:Int)≠n then 15 else if v.any (fun x=>decide (x<0∨most≤x)) then 2 else 0
def ci(l:List (List Int))(i:Nat):Bool:=decide (0<i)&&decide (0≤bl (l.getD (i-1) default) (l.getD i default))
def mC(n outs:Int)(l:List (List Int))(k:Nat):Int:=if bH (l.getD k default) n outs≠0 then bH (l.getD k default) n outs else if ci l k then 14 else 0
def lY(out calm:List (List Int))(k:Nat):Int:=if calm.getD k default∈out then(if ci calm k then 14 else 0) else 6
def cp(n outs:Int)(c:CaseV):Int:=if c.out.length<1∨1024<c.out.length then 5 else if cE (mC n outs c.out) c.out.length≠0 then cE (mC n outs c.out) c.out.length else cE (lY c.out c.calm) c.calm.length
def gN(t:TaskV)(k:Nat):Int:=if bH (t.cases.getD k default).inp t.n t.ins≠0 then bH (t.cases.getD k default).inp t.n t.ins else if ci (t.cases.map CaseV.inp) k then 14 else cp t.n t.outs (t.cases.getD k default)
def bU(t:TaskV):Int:=if t.n<1∨5<t.n∨t.ins<1∨8<t.ins∨t.outs<1∨8<t.outs then 2 else if t.cases.length<1∨1024<t.cases.length then 5 else cE (gN t) t.cases.length
theorem ew:∀l:List Int,bl l l=0
 |[]=>rfl
 |a::l=>by rw[bl,if_neg (by omega),if_neg (by omega)];exact ew l
theorem nq:∀{l m:List Int},bl l m=0→l=m
 |[],[],_=>rfl
 |[],_::_,h=>by simp[bl] at h
 |_::_,[],h=>by simp[bl] at h
 |a::l,b::m,h=>by
  rw[bl] at h;split at h
  ·omega
  ·split at h
   ·omega
   ·rw[nq h,show a=b by omega]
theorem f0:∀l m:List Int,bl m l=- bl l m
 |[],[]=>rfl
 |[],_::_=>rfl
 |_::_,[]=>rfl
 |a::l,b::m=>by
  rw[bl,bl];by_cases h:a<b
  ·rw[if_neg (by omega),if_pos (by omega),if_pos h];rfl
  ·by_cases h2:b<a
   ·rw[if_pos h2,if_neg h,if_pos (by omega)]
   ·rw[if_neg h2,if_neg (by omega),if_neg h,if_neg (by omega)];exact f0 l m
theorem oJ:∀l m:List Int,bl l m=-1∨bl l m=0∨bl l m=1
 |[],[]=>.inr (.inl rfl)
 |[],_::_=>.inl rfl
 |_::_,[]=>.inr (.inr rfl)
 |a::l,b::m=>by
  rw[bl];split
  ·exact .inl rfl
  ·split
   ·exact .inr (.inr rfl)
   ·exact oJ l m
theorem iQ:∀{l m k:List Int},bl l m<0→bl m k<0→bl l k<0
 |[],[],k,h,_=>by simp[bl] at h
 |[],_::_,[],_,h=>by simp[bl] at h
 |[],_::_,_::_,_,_=>by simp[bl]
 |_::_,[],_,h,_=>by simp[bl] at h
 |_::_,_::_,[],_,h=>by simp[bl] at h
 |a::l,b::m,c::k,h1,h2=>by
  rw[bl] at h1 h2 ⊢;by_cases e1:a<b
  ·by_cases e2:b<c
   ·rw[if_pos (by omega)];decide
   ·rw[if_neg e2] at h2;by_cases e3:b>c
    ·rw[if_pos e3] at h2;omega
    ·rw[if_pos (by omega)];decide
  ·rw[if_neg e1] at h1;by_cases e4:a>b
   ·rw[if_pos e4] at h1;omega
   ·rw[if_neg e4] at h1;by_cases e2:b<c
    ·rw[if_pos (by omega)];decide
    ·rw[if_neg e2] at h2;by_cases e3:b>c
     ·rw[if_pos e3] at h2;omega
     ·rw[if_neg e3] at h2;rw[if_neg (by omega),if_neg (by omega)];exact iQ h1 h2
theorem uo{l:List (List Int)}(h:∀i,i<l.length→ci l i=false):∀(j i:Nat),i<j→j<l.length→bl (l.getD i default) (l.getD j default)<0
 |0,i,h1,_=>absurd h1 (by omega)
 |j+1,i,h1,h2=>by
  have hj:=h (j+1) h2;unfold ci at hj;rw[cA (show 0<j+1 by omega),Bool.true_and,decide_eq_false_iff_not] at hj
  have hj':bl (l.getD j default) (l.getD (j+1) default)<0:=by
   rw[show j+1-1=j by omega] at hj;omega
  by_cases e:i=j
  ·subst e;exact hj'
  ·exact iQ (uo h j i (by omega) (by omega)) hj'
attribute [local irreducible] aG al bh a7 aV aU aB aX a9 bt Go.Abs.Fn aZ Go.Abs.Pure ax aO Yl
def jy(l:List Int)(p:Int→Bool):Int:=if l.any p then(l.findIdx p:Nat) else-1
theorem qc{l:List Int}{p:Int→Bool}{k:Nat}(hk:k<l.length)(h:∀i,i<k→p (l.getD i default)=false)(hv:p (l.getD k default)=true):jy l p=k:=by
 have e:l.getD k default=l[k]:=by simp[List.getD,hk]
 have hm:l.any p=true:=jB.2 ⟨l[k],jx hk,by rw[←e];exact hv⟩;unfold jy;rw[if_pos hm];have:l.findIdx p=k:=(List.findIdx_eq hk).2 ⟨by rw[←e];exact hv,fun j hj=>by have:=h j hj;rwa [show l.getD j default=l[j] by simp[List.getD,show j<l.length by omega]] at this⟩;rw[this]
theorem lA{l:List Int}{p:Int→Bool}(h:∀i,i<l.length→p (l.getD i default)=false):l.any p=false:=by
 rw[List.any_eq_false];intro x hx;obtain⟨i,hi,e⟩:=fP hx;have:=h i hi;rw[show l.getD i default=l[i] by simp[List.getD,hi],e] at this;simp[this]
theorem kF(l:List Int)(p:Int→Bool)(g:Nat)(caps:List AV)(hd:∀x∈caps,Dat x)(hg:∀x∈l,pU g (.int .i64 x::caps) (.bool (p x)))(hl:Sh l):pU 77 [aC l,.func g caps] (.int .i64 (jy l p)):=by
 refine pO B8 ?_;simp only[b77,ay]
 repeat' (first|refine zW ?_|apply a_n|refine zO ?_|refine vZ ?_|fail)
 refine dJ (X:=Nat) (fun k=>[(0,aC l),(1,.func g caps),(6,aC l),(7,.int .i64 l.length),(8,.int .i64 k)]) (fun k=>k≤l.length∧∀i,i<k→p (l.getD i default)=false) (fun k=>l.length-k) 0 ⟨cu _,by simp⟩ ag0 ?_;rintro k ⟨h1,h2⟩
 repeat' (first|refine zW ?_|apply a_n|apply a_x|apply a_r|refine zO ?_|refine vZ ?_|refine cZ ?_ (hp:=by exact hg _ (an (by omega))) (hs:=by(first|refine ak ?_ rfl|apply au);(repeat' (first|exact ai|apply aD|apply aw|exact av hd));first|done|fail)|(refine zGZ ?_ ?_<;>(intro _hg;try (exfalso;omega)))|refine ae rfl ?_|refine r1Z ?_|fail)
 ·refine aR ?_;rw[qc (by omega) h2 _hg]
 ·refine⟨k+1,⟨by omega,fun i hi=>?_⟩,by omega,ag0,rfl,rfl⟩;rcases iJ.1 hi with h|rfl
  ·exact h2 i h
  ·exact _hg
 ·refine aR ?_;unfold jy;rw[lA fun i hi=>h2 i (by omega)];rfl
theorem ft(l:List Int)(p:Int→Bool)(g:Nat)(caps:List AV)(hd:∀x∈caps,Dat x)(hg:∀x∈l,pU g (.int .i64 x::caps) (.bool (p x)))(hl:Sh l):pU 61 [aC l,.func g caps] (.bool (l.any p)):=by
 refine pO Bw ?_;simp only[b61,ay]
 repeat' (first|refine zW ?_|apply a_n|refine zO ?_|refine vZ ?_|refine cZ ?_ (hp:=by exact kF l p g caps hd hg hl) (hs:=by(first|refine ak ?_ rfl|apply au);(repeat' (first|exact ai|apply aD|apply aw|exact Dat.func hd));first|done|fail)|refine ae rfl ?_|refine r1Z ?_|fail)
 refine aY ?_;unfold jy;split<;>simp_all
theorem ko(l:List Int)(hl:Sh l):PureF Tryz.prog 45 [aC l] (aC l):=by
 refine qO Ak ?_;simp only[b45,ay]
 repeat' (first|refine zW ?_|apply a_n|refine zO ?_|refine vZ ?_|fail)
 refine tn (k:=l.length) (by((try simp only[bR,ZA,reduceEqDiff,↓reduceIte,reduceAdd,reduceLeDiff]);(try with_reducible rfl));exact jU) (fun h=>?_) (fun h=>?_) (fun h=>?_)
 ((all_goals (try have zz:=and_self));(repeat' (first|refine zW ?_|apply a_n|apply a_r|refine zO ?_|refine vZ ?_|refine b0Z ?_|refine a0Z ?_|refine cTZ ?_|refine cFZ ?_|refine ae rfl ?_|refine r1Z ?_|fail));(all_goals (try clear zz)))
 ·exact jv aj (by omega) rfl
 ·exact pu h
 ·exact jv aj (by omega) rfl
theorem oC(l m:List Int)(hl:Sh l)(hm:Sh m):pU 84 [aC l,aC m] (.bool (decide (l=m))):=by
 refine pO BI ?_;simp only[b84,ay]
 repeat' (first|refine zW ?_|apply a_n|apply a_r|refine zO ?_|refine vZ ?_|(refine zGZ ?_ ?_<;>(intro _hg;try (exfalso;omega)))|refine ae rfl ?_|refine r1Z ?_|fail)
 ·refine aY ?_
  symm;rw[decide_eq_false_iff_not];rintro rfl;omega
 refine dJ (X:=Nat) (fun k=>[(0,aC l),(1,aC m),(12,.int .i64 l.length),(13,.int .i64 k)]) (fun k=>k≤l.length∧∀i,i<k→l.getD i default=m.getD i default) (fun k=>l.length-k) 0 ⟨cu _,by simp⟩ ag0 ?_;rintro k ⟨h1,h2⟩
 repeat' (first|refine zW ?_|apply a_n|apply a_x|apply a_r|refine zO ?_|refine vZ ?_|(refine zGZ ?_ ?_<;>(intro _hg;try (exfalso;omega)))|refine ae rfl ?_|refine r1Z ?_|fail)
 ·refine aY ?_
  symm;rw[decide_eq_false_iff_not];rintro rfl;exact absurd rfl ‹_›
 ·refine⟨k+1,⟨by omega,fun i hi=>?_⟩,by omega,ag0,rfl,rfl⟩;rcases iJ.1 hi with h|rfl
  ·exact h2 i h
  ·omega
 ·refine aY ?_
  symm;rw[tR]
  refine List.ext_getElem (by omega) (fun i h3 h4=>?_);have:=h2 i (by omega);simpa[List.getD,h3,h4] using this
theorem ql(n:Int):pU 81 [.int .i64 n] (.bool false):=by
 refine pO Bn ?_;simp only[b81,ay]
 repeat' (first|refine zW ?_|apply a_n|refine zO ?_|refine vZ ?_|refine ae rfl ?_|refine r1Z ?_|fail)
 exact aY (by simp)
theorem xb(a b:Int):pU 63 [.int .i64 a,.int .i64 b] (.int .i64 (if a<b then-1 else if a>b then 1 else 0)):=by
 refine pO BJ ?_;simp only[b63,ay];have zz:=@cI;repeat' (first|refine zW ?_|apply a_n|apply a_r|refine zO ?_|refine vZ ?_|refine cZ ?_ (hp:=by exact ql _)|refine cFZ ?_|(refine zGZ ?_ ?_<;>(intro _hg;try (exfalso;omega)))|refine ae rfl ?_|refine r1Z ?_|fail)
 all_goals (refine aR ?_)
 ·rw[if_pos ‹_›]
 ·rw[if_neg ‹_›,if_pos ‹_›]
 ·rw[if_neg (by omega),if_neg (by omega)]
theorem eT(a b:List Int)(ha:Sh a)(hb:Sh b):pU 24 [aC a,aC b] (.int .i64 (bl a b)):=by
 refine pO CH ?_;simp only[b24,ay]
 repeat' (first|refine zW ?_|apply a_n|refine zO ?_|refine vZ ?_|fail)
 refine dJ (X:=Nat) (fun k=>[(0,aC a),(1,aC b),(9,aC a),(10,.int .i64 a.length),(11,.int .i64 k)]) (fun k=>k≤a.length∧k≤b.length∧bl a b=bl (a.drop k) (b.drop k)) (fun k=>a.length-k) 0 ⟨cu _,cu _,rfl⟩ ag0 ?_;rintro k ⟨h1,h2,h3⟩
 repeat' (first|refine zW ?_|apply a_n|apply a_x|apply a_r|refine zO ?_|refine vZ ?_|refine cZ ?_ (hp:=by exact xb _ _)|(refine zGZ ?_ ?_<;>(intro _hg;try (exfalso;omega)))|refine ae rfl ?_|refine r1Z ?_|fail)
 ·refine aR ?_;rw[h3,jD (show b.length≤k by omega),bO (l:=a) (by omega)];rfl
 ·refine aR ?_;rw[h3,bO (l:=a) (by omega),bO (l:=b) (by omega),bl];split
  ·rfl
  ·rename_i h;split
   ·rfl
   ·rename_i h';exact absurd (show(if a.getD k default<b.getD k default then(-1:Int) else if a.getD k default>b.getD k default then 1 else 0)=0 by rw[if_neg h,if_neg h']) ‹_›
 ·refine⟨k+1,⟨by omega,by omega,?_⟩,by omega,ag0,rfl,rfl⟩;rw[h3,bO (l:=a) (by omega),bO (l:=b) (by omega),bl];by_cases h:a.getD k default<b.getD k default
  ·rw[if_pos h] at _hg;exact absurd (by decide) _hg
  ·by_cases h':a.getD k default>b.getD k default
   ·rw[if_neg h,if_pos h'] at _hg;exact absurd (by decide) _hg
   ·rw[if_neg h,if_neg h']
 ·refine aR ?_;rw[h3,jD (show a.length≤k by omega),bO (l:=b) (by omega)];rfl
 ·refine aR ?_;rw[h3,jD (show a.length≤k by omega),jD (show b.length≤k by omega)];rfl
theorem kZ(l:List (List Int))(p:List Int→Bool)(g:Nat)(caps:List AV)(hd:∀x∈caps,Dat x)(hg:∀x∈l,pU g (aC x::caps) (.bool (p x)))(hl:Sh l):pU 108 [bd l,.func g caps] (.int .i64 (if l.any p then(l.findIdx p:Nat) else-1)):=by
 refine pO Ae ?_;simp only[Aq,ay]
 repeat' (first|refine zW ?_|apply a_n|refine zO ?_|refine vZ ?_|fail)
 refine dJ (X:=Nat) (fun k=>[(0,bd l),(1,.func g caps),(7,.int .i64 l.length),(8,.int .i64 k)]) (fun k=>k≤l.length∧∀i,i<k→p (l.getD i default)=false) (fun k=>l.length-k) 0 ⟨cu _,by simp⟩ ag0 ?_;rintro k ⟨h1,h2⟩
 repeat' (first|refine zW ?_|apply a_n|apply a_x|apply a_r|refine zO ?_|refine vZ ?_|refine cZ ?_ (hp:=by exact hg _ (an (by omega))) (hs:=by(first|refine ak ?_ rfl|apply au);(repeat' (first|exact ai|apply aD|apply aw|exact av hd));first|done|fail)|(refine zGZ ?_ ?_<;>(intro _hg;try (exfalso;omega)))|refine ae rfl ?_|refine r1Z ?_|fail)
 ·refine aR ?_;have hk:k<l.length:=by omega
  have e:l.getD k default=l[k]:=by simp[List.getD,hk]
  rw[e] at _hg;have hm:l.any p=true:=jB.2 ⟨l[k],jx hk,_hg⟩;rw[if_pos hm,(List.findIdx_eq hk).2 ⟨_hg,fun j hj=>by have:=h2 j hj;rwa [show l.getD j default=l[j] by simp[List.getD,show j<l.length by omega]] at this⟩]
 ·refine⟨k+1,⟨by omega,fun i hi=>?_⟩,by omega,ag0,rfl,rfl⟩;rcases iJ.1 hi with h|rfl
  ·exact h2 i h
  ·exact _hg
 ·refine aR ?_;rw[if_neg];rw[Bool.not_eq_true,List.any_eq_false];intro x hx;obtain⟨i,hi,e⟩:=fP hx;have:=h2 i (by omega);rw[show l.getD i default=x by simp[List.getD,hi,e]] at this;simp[this]
theorem hJ(l:List (List Int))(p:List Int→Bool)(g:Nat)(caps:List AV)(hd:∀x∈caps,Dat x)(hg:∀x∈l,pU g (aC x::caps) (.bool (p x)))(hl:Sh l):pU 82 [bd l,.func g caps] (.bool (l.any p)):=by
 refine pO Cd ?_;simp only[b82,ay]
 repeat' (first|refine zW ?_|apply a_n|refine zO ?_|refine vZ ?_|refine cZ ?_ (hp:=by exact kZ l p g caps hd hg hl) (hs:=by(first|refine ak ?_ rfl|apply au);(repeat' (first|exact ai|apply aD|apply aw|exact Dat.func hd));first|done|fail)|refine ae rfl ?_|refine r1Z ?_|fail)
 refine aY ?_;split<;>simp_all
end Go.Proofs.YtcbkggfipdldaaaGreat
namespace Go.Proofs.YtcbkggfipdldaaaGreat
open Go Go.Abs
open Nat (reduceEqDiff reduceAdd reduceLeDiff)
attribute [local irreducible] aG al bh a7 aV aU aB aX a9 bt Go.Abs.Fn aZ Go.Abs.Pure ax aO Yl
theorem tc(v x:List Int)(hv:Sh v)(hx:Sh x):pU 83 [aC x,.iptr [aC v] 0] (.bool (decide (x=v))):=by
 refine pO Cb ?_;simp only[b83,ay]
 repeat' (first|refine zW ?_|apply a_n|refine zO ?_|refine vZ ?_|refine cZ ?_ (hp:=by exact oC _ _ hx hv)|refine ae rfl ?_|refine r1Z ?_|fail)
 exact .bool _
theorem yr(l:List (List Int))(v:List Int)(hl:Sh l)(hs:∀x∈l,Sh x)(hv:Sh v):pU 65 [bd l,aC v] (.bool (l.any fun x=>decide (x=v))):=by
 refine pO Bv ?_;simp only[b65,ay]
 repeat' (first|refine zW ?_|apply a_n|refine zO ?_|refine vZ ?_|refine bxZ ?_|fail)
 refine co ev0 ev0 (hJ l (fun x=>decide (x=v)) 83 [.iptr [aC v] 0] (DatL.cons (Dat.iptr (DatL.cons (bw _) DatL.nil)) DatL.nil) (fun x hx=>tc v x hv (hs x hx)) hl) (ak (by(repeat' (first|exact ai|exact Dat.snap Dat.int|exact Dat.snap Dat.bool|exact Dat.snap Dat.str|exact Dat.snap Dat.esl|exact Dat.snap Dat.nilf|exact Dat.snap (bw _)|exact Dat.snap (bi _)|apply ap|apply d6|apply ez|(apply dR;(focus ((try simp only[bR,ZA,reduceEqDiff,↓reduceIte,reduceAdd,reduceLeDiff]);with_reducible rfl));(focus rfl))))) rfl) ?_
 repeat' (first|apply a_n|refine zO ?_|refine vZ ?_|refine ae rfl ?_|refine r1Z ?_|fail)
 exact .bool _
theorem lH(x most:Int):pU 62 [.int .i64 x,.iptr [.int .i64 most] 0] (.bool (decide (x<0∨most≤x))):=by
 refine pO Bq ?_;simp only[b62,ay]
 repeat' (first|refine zW ?_|apply a_n|refine zO ?_|refine vZ ?_|refine gTZ ?_|refine gFZ ?_|(refine zGZ ?_ ?_<;>(intro _hg;try (exfalso;omega)))|refine ae rfl ?_|refine r1Z ?_|fail)
 all_goals (refine aY ?_)
 ·exact decide_eq_decide.2 (by omega)
 ·rw[cA (by omega)]
theorem fj(l:List (List Int))(i:Nat)(hi:i<l.length)(hl:Sh l)(hs:∀x∈l,Sh x):pU 64 [bd l,.int .i64 i] (.bool (decide (0<i)&&decide (0≤bl (l.getD (i-1) default) (l.getD i default)))):=by
 refine pO Bi ?_;simp only[b64,ay];by_cases h0:i=0
 ·subst h0;have zz:=(show((0:Nat):Int)=0 from rfl);repeat' (first|refine zW ?_|refine zM ?_|apply a_n|refine zO ?_|refine vZ ?_|refine gFZ ?_|(refine zGZ ?_ ?_<;>(intro _hg;try (exfalso;omega)))|refine ae rfl ?_|refine r1Z ?_|fail)
  exact aY (by simp)
 ·have e:((i:Int)-1).toNat=i-1:=by omega
  have hc:=eT (l.getD (i-1) default) (l.getD i default) (hs _ (an (by omega))) (hs _ (an (by omega)));have zz:=@e;repeat' (first|refine zW ?_|refine zM ?_|apply a_n|refine zO ?_|refine vZ ?_|refine cZ ?_ (hp:=hc)|refine gTZ ?_|(refine zGZ ?_ ?_<;>(intro _hg;try (exfalso;omega)))|refine ae rfl ?_|refine r1Z ?_|fail)
  refine aY ?_;rw[cA (show 0<i by omega),Bool.true_and]
end Go.Proofs.YtcbkggfipdldaaaGreat
namespace Go.Proofs.YtcbkggfipdldaaaGreat
open Go Go.Abs
open Nat (reduceEqDiff reduceAdd reduceLeDiff)
theorem kf{t:TaskV}{k:Nat}(h:k<t.cases.length):(t.cases.map CaseV.inp).getD k default=(t.cases.getD k default).inp:=by simp[List.getD,h]
theorem yX(l:List (List Int))(v:List Int):(l.any fun x=>decide (x=v))=decide (v∈l):=by
 by_cases h:v∈l
 ·rw[cA h,jB];exact⟨v,h,by simp⟩
 ·rw[dN h,List.any_eq_false];intro x hx e;rw[tR] at e;subst e;exact h hx
attribute [local irreducible] aG al bh a7 aV aU aB aX a9 bt Go.Abs.Fn aZ Go.Abs.Pure ax aO Yl
theorem ja(v:List Int)(n most:Int)(hv:Sh v):pU 23 [aC v,.int .i64 n,.int .i64 most] (.int .i64 (bH v n most)):=by
 refine pO Ch ?_;simp only[b23,ay];have hv':v.length≤17592186044416:=hv;by_cases hn:(v.length:Int)=n
 rotate_left
 ·have e:bH v n most=15:=by unfold bH;rw[if_pos hn]
  rw[e]
  repeat' (first|refine zW ?_|apply a_n|apply a_r|refine zO ?_|refine vZ ?_|refine bxZ ?_|(refine zGZ ?_ ?_<;>(intro _hg;try (exfalso;omega)))|refine ae rfl ?_|refine r1Z ?_|fail)
  all_goals exact .int _ _
 have e:bH v n most=if v.any (fun x=>decide (x<0∨most≤x)) then 2 else 0:=by unfold bH;rw[if_neg (fun h=>h hn)]
 rw[e];have hc:=ft v (fun x=>decide (x<0∨most≤x)) 62 [.iptr [.int .i64 most] 0] (DatL.cons (Dat.iptr (DatL.cons .int DatL.nil)) DatL.nil) (fun x _=>lH x most) hv
 repeat' (first|refine zW ?_|apply a_n|refine zO ?_|refine vZ ?_|refine bxZ ?_|(refine zGZ ?_ ?_<;>(intro _hg;try (exfalso;omega)))|fail)
 refine co ev0 ev0 hc (ak (by(repeat' (first|exact ai|exact Dat.snap Dat.int|exact Dat.snap Dat.bool|exact Dat.snap Dat.str|exact Dat.snap Dat.esl|exact Dat.snap Dat.nilf|exact Dat.snap (bw _)|exact Dat.snap (bi _)|apply ap|apply d6|apply ez|(apply dR;(focus ((try simp only[bR,ZA,reduceEqDiff,↓reduceIte,reduceAdd,reduceLeDiff]);with_reducible rfl));(focus rfl))))) rfl) ?_;cases hb:v.any (fun x=>decide (x<0∨most≤x))
 ·have zz:=@cI;repeat' (first|refine zW ?_|apply a_n|refine zO ?_|refine vZ ?_|refine cFZ ?_|refine ae rfl ?_|refine r1Z ?_|fail)
  all_goals exact .int _ _
 ·have zz:=@cI;repeat' (first|refine zW ?_|apply a_n|apply a_r|refine zO ?_|refine vZ ?_|refine cTZ ?_|refine ae rfl ?_|refine r1Z ?_|fail)
  all_goals exact .int _ _
theorem wB(n ins outs:Int)(cs:AV)(hcs:Dat cs∧cs.cells=[cs]∧cs.one=true)(c:CaseV)(hs:ShC c):pU 25 [.agg [.int .i64 n,.int .i64 ins,.int .i64 outs,cs],.agg [aC c.inp,bd c.out,bd c.calm]] (.int .i64 (cp n outs c)):=by
 refine pO B2 ?_;simp only[b25,ay];obtain⟨hc1,hc2,hc3⟩:=hcs;obtain⟨s1,s2,s3,s4,s5⟩:=hs;have s2':c.out.length≤17592186044416:=s2;have s4':c.calm.length≤17592186044416:=s4;by_cases h0:c.out.length<1∨1024<c.out.length
 ·have e:cp n outs c=5:=by unfold cp;rw[if_pos h0]
  rw[e];have zz:=aI @hc2 @hc3;repeat' (first|refine zW ?_|apply a_n|apply a_r|refine zO ?_|refine vZ ?_|refine bxZ ?_|refine gTZ ?_|refine gFZ ?_|refine cTZ ?_|(refine zGZ ?_ ?_<;>(intro _hg;try (exfalso;omega)))|refine ae rfl ?_|refine r1Z ?_|fail)
  all_goals exact .int _ _
 have e:cp n outs c=if cE (mC n outs c.out) c.out.length≠0 then cE (mC n outs c.out) c.out.length else cE (lY c.out c.calm) c.calm.length:=by unfold cp;rw[if_neg h0]
 rw[e];have zz:=aI @hc2 @hc3;repeat' (first|refine zW ?_|apply a_n|refine zO ?_|refine vZ ?_|refine bxZ ?_|refine gTZ ?_|(refine zGZ ?_ ?_<;>(intro _hg;try (exfalso;omega)))|fail)
 refine dJ (X:=Nat) (fun k=>[(2,.ptr 0 4 0),(3,.ptr 1 3 0),(21,bd c.out),(22,.int .i64 c.out.length),(23,.int .i64 k)]) (fun k=>k≤c.out.length∧∀i,i<k→mC n outs c.out i=0) (fun k=>c.out.length-k) 0 ⟨cu _,fun i h=>absurd h (by omega)⟩ (by simp (disch:=omega) only[agr,ZG,reduceEqDiff,↓reduceIte,de,dF,reduceAdd,bQ]) ?_;rintro k ⟨hk,hz⟩;by_cases hj:k<c.out.length
 ·have hm:=an hj;have hv:=ja (c.out.getD k default) n outs (s3 _ hm);have hu:=fj c.out k hj s2 s3;have ho:mC n outs c.out k=if bH (c.out.getD k default) n outs≠0 then bH (c.out.getD k default) n outs else if ci c.out k then 14 else 0:=rfl
  change Pure _ _ _ (.bool (ci c.out k)) at hu;generalize bH (c.out.getD k default) n outs=V at *;by_cases hV:V=0
  ·subst hV;cases hub:ci c.out k
   ·rw[hub] at hu ho;clear zz;have zz:=aI @hc2 (aI @hc3 @cI);repeat' (first|refine zW ?_|apply a_n|refine zO ?_|refine vZ ?_|refine cZ ?_ (hp:=by first|exact hv|exact hu)|refine cFZ ?_|(refine zGZ ?_ ?_<;>(intro _hg;try (exfalso;omega)))|fail)
    refine⟨k+1,⟨by omega,fun i hi=>?_⟩,by omega,ag0,rfl,rfl⟩;rcases iJ.1 hi with h|rfl
    ·exact hz i h
    ·exact ho
   ·rw[hub] at hu ho;clear zz;have zz:=aI @hc2 (aI @hc3 @cI);repeat' (first|refine zW ?_|apply a_n|apply a_r|refine zO ?_|refine vZ ?_|refine cZ ?_ (hp:=by first|exact hv|exact hu)|refine cTZ ?_|(refine zGZ ?_ ?_<;>(intro _hg;try (exfalso;omega)))|refine ae rfl ?_|refine r1Z ?_|fail)
    refine aR ?_;rw[dj hj hz (by rw[ho];decide),if_pos (by rw[ho];decide),ho];rfl
  ·have ho':mC n outs c.out k=V:=by rw[ho,if_pos hV]
   clear zz;have zz:=aI @hc2 (aI @hc3 @cI);repeat' (first|refine zW ?_|apply a_n|apply a_r|refine zO ?_|refine vZ ?_|refine cZ ?_ (hp:=by first|exact hv|exact hu)|(refine zGZ ?_ ?_<;>(intro _hg;try (exfalso;omega)))|refine ae rfl ?_|refine r1Z ?_|fail)
   refine aR ?_;rw[dj hj hz (by rw[ho'];exact hV),if_pos (by rw[ho'];exact hV),ho']
 ·have hz0:=cL (f:=mC n outs c.out) (n:=c.out.length) (fun i hi=>hz i (by omega));rw[hz0,if_neg (fun h=>h rfl)];clear zz;have zz:=aI @hc2 @hc3;repeat' (first|refine zW ?_|apply a_n|apply a_x|refine zO ?_|refine vZ ?_|(refine zGZ ?_ ?_<;>(intro _hg;try (exfalso;omega)))|fail)
  refine dJ (X:=Nat) (fun k=>[(2,.ptr 0 4 0),(3,.ptr 1 3 0),(43,bd c.calm),(44,.int .i64 c.calm.length),(45,.int .i64 k)]) (fun k=>k≤c.calm.length∧∀i,i<k→lY c.out c.calm i=0) (fun k=>c.calm.length-k) 0 ⟨cu _,fun i h=>absurd h (by omega)⟩ ag0 ?_;rintro k ⟨hk,hz⟩;by_cases hj:k<c.calm.length
  ·have hm:=an hj;have hv:=yr c.out (c.calm.getD k default) s2 s3 (s5 _ hm);rw[yX] at hv;have hu:=fj c.calm k hj s4 s5;have ho:lY c.out c.calm k=if c.calm.getD k default∈c.out then(if ci c.calm k then 14 else 0) else 6:=rfl
   change Pure _ _ _ (.bool (ci c.calm k)) at hu;by_cases hh:c.calm.getD k default∈c.out
   ·rw[cA hh] at hv;rw[if_pos hh] at ho;cases hub:ci c.calm k
    ·rw[hub] at hu ho;clear zz;have zz:=aI @hc2 (aI @hc3 @cI);repeat' (first|refine zW ?_|apply a_n|refine zO ?_|refine vZ ?_|refine cZ ?_ (hp:=by first|exact hv|exact hu)|refine cFZ ?_|(refine zGZ ?_ ?_<;>(intro _hg;try (exfalso;omega)))|fail)
     refine⟨k+1,⟨by omega,fun i hi=>?_⟩,by omega,ag0,rfl,rfl⟩;rcases iJ.1 hi with h|rfl
     ·exact hz i h
     ·exact ho
    ·rw[hub] at hu ho;clear zz;have zz:=aI @hc2 (aI @hc3 @cI);repeat' (first|refine zW ?_|apply a_n|apply a_r|refine zO ?_|refine vZ ?_|refine cZ ?_ (hp:=by first|exact hv|exact hu)|refine cTZ ?_|refine cFZ ?_|(refine zGZ ?_ ?_<;>(intro _hg;try (exfalso;omega)))|refine ae rfl ?_|refine r1Z ?_|fail)
     refine aR ?_;rw[dj hj hz (by rw[ho];decide),ho];rfl
   ·rw[dN hh] at hv;rw[if_neg hh] at ho;clear zz;have zz:=aI @hc2 (aI @hc3 @cI);repeat' (first|refine zW ?_|apply a_n|apply a_r|refine zO ?_|refine vZ ?_|refine cZ ?_ (hp:=by first|exact hv|exact hu)|refine cTZ ?_|(refine zGZ ?_ ?_<;>(intro _hg;try (exfalso;omega)))|refine ae rfl ?_|refine r1Z ?_|fail)
    refine aR ?_;rw[dj hj hz (by rw[ho];decide),ho]
  ·clear zz;have zz:=aI @hc2 @hc3;repeat' (first|refine zW ?_|apply a_n|apply a_x|refine zO ?_|refine vZ ?_|(refine zGZ ?_ ?_<;>(intro _hg;try (exfalso;omega)))|refine ae rfl ?_|refine r1Z ?_|fail)
   refine aR ?_;rw[cL fun i hi=>hz i (by omega)]
end Go.Proofs.YtcbkggfipdldaaaGreat
namespace Go.Proofs.YtcbkggfipdldaaaGreat
open Go Go.Abs
open Nat (reduceEqDiff reduceAdd reduceLeDiff)
attribute [local irreducible] aG al bh a7 aV aU aB aX a9 bt Go.Abs.Fn aZ Go.Abs.Pure ax aO Yl
set_option maxHeartbeats 2000000 in
theorem mF(t:TaskV)(hs:∀c∈t.cases,ShC c)(hsc:Sh t.cases):pU 8 [encT t] (.int .i64 (bU t)):=by
 refine pO is8 ?_;simp only[b8,ay];have hsc':t.cases.length≤17592186044416:=hsc;unfold encT;by_cases h0:t.n<1∨5<t.n∨t.ins<1∨8<t.ins∨t.outs<1∨8<t.outs
 ·have e:bU t=2:=by unfold bU;rw[if_pos h0]
  rw[e];have zz:=aI @az (aI @ar @aS);repeat' (first|refine zW ?_|apply a_n|apply a_r|refine zO ?_|refine vZ ?_|refine bxZ ?_|refine gTZ ?_|refine gFZ ?_|refine cTZ ?_|(refine zGZ ?_ ?_<;>(intro _hg;try (exfalso;omega)))|refine ae rfl ?_|refine r1Z ?_|fail)
  all_goals exact .int _ _
 by_cases h1:t.cases.length<1∨1024<t.cases.length
 ·have e:bU t=5:=by unfold bU;rw[if_neg h0,if_pos h1]
  rw[e];have zz:=aI @az (aI @ar @aS);repeat' (first|refine zW ?_|apply a_n|apply a_r|refine zO ?_|refine vZ ?_|refine bxZ ?_|refine gTZ ?_|refine gFZ ?_|refine cTZ ?_|(refine zGZ ?_ ?_<;>(intro _hg;try (exfalso;omega)))|refine ae rfl ?_|refine r1Z ?_|fail)
  all_goals exact .int _ _
 have e:bU t=cE (gN t) t.cases.length:=by unfold bU;rw[if_neg h0,if_neg h1]
 rw[e];have zz:=aI @az (aI @ar @aS);repeat' (first|refine zW ?_|apply a_n|refine zO ?_|refine vZ ?_|refine bxZ ?_|refine gTZ ?_|(refine zGZ ?_ ?_<;>(intro _hg;try (exfalso;omega)))|fail)
 refine bo (X:=Nat) (fun k=>[(1,.ptr 0 4 0),(44,encCs t.cases),(45,.int .i64 t.cases.length),(46,.int .i64 k)]) (fun k H nx=>k≤t.cases.length∧(∀i,i<k→gN t i=0)∧1≤nx∧H 0=some [.int .i64 t.n,.int .i64 t.ins,.int .i64 t.outs,encCs t.cases]) (fun k=>t.cases.length-k) 0 ⟨cu _,fun i h=>absurd h (by omega),aM _,rfl⟩ (by simp (disch:=omega) only[agr,ZG,reduceEqDiff,↓reduceIte,de,dF,reduceAdd]) ?_;rintro k H nx ⟨hk,hz,hn,g0⟩;by_cases hj:k<t.cases.length
 rotate_left
 ·clear zz;have zz:=aI @g0 (aI @az (aI @ar (aI @aS (aI @a6 @cI))));repeat' (first|refine zW ?_|apply a_n|apply a_x|refine zO ?_|refine vY ?_|(refine zGY ?_ ?_<;>(intro _hg;try (exfalso;omega)))|refine ae rfl ?_|refine r1Y ?_|fail)
  refine aR ?_;rw[cL fun i hi=>hz i (by omega)]
 have hm:=an hj;have hsh:=hs _ hm;have hv:=ja _ t.n t.ins hsh.1;have hvs:=wB t.n t.ins t.outs (encCs t.cases) ⟨gF _,rfl,rfl⟩ _ hsh;have d1:Dat (eb (t.cases.getD k default)):=Dat.agg (DatL.cons (bw _) (DatL.cons (bi _) (DatL.cons (bi _) DatL.nil)));have d2:=eM t;unfold eb at d1;unfold encT at d2;have hce:gN t k=if bH (t.cases.getD k default).inp t.n t.ins≠0 then bH (t.cases.getD k default).inp t.n t.ins else if ci (t.cases.map CaseV.inp) k then 14 else cp t.n t.outs (t.cases.getD k default):=rfl
 have fin:gN t k≠0→cE (gN t) t.cases.length=gN t k:=fun h=>dj hj hz h
 have hnext:gN t k=0→∀i,i<k+1→gN t i=0:=fun h i hi=>by
  rcases iJ.1 hi with h'|rfl
  ·exact hz i h'
  ·exact h
 by_cases hk0:k=0
 ·subst hk0;have hu:ci (t.cases.map CaseV.inp) 0=false:=rfl;rw[hu] at hce;have hi0:eH 3 (encCs t.cases) (.int .i64 0)=_:=a6 (l:=t.cases) (k:=0) hj;generalize bH (t.cases.getD 0 default).inp t.n t.ins=V at *;generalize cp t.n t.outs (t.cases.getD 0 default)=W at *;by_cases hV:V=0
  ·subst hV;rw[if_neg (fun h=>h rfl),if_neg (by simp)] at hce;by_cases hW:W=0
   ·subst hW;clear zz;have zz:=aI @g0 (aI @az (aI @ar (aI @aS (aI @a6 (aI @cI (aI (show((0:Nat):Int)=0 from rfl) @hi0))))));repeat' (first|refine zW ?_|refine zM ?_|apply a_n|refine zO ?_|refine vY ?_|refine cY ?_ (hp:=by first|exact hv|exact hvs)|refine alY ?_|refine stY ?_|refine gFY ?_|refine cFY ?_|(refine zGY ?_ ?_<;>(intro _hg;try (exfalso;omega)))|fail)
    refine⟨0+1,by omega,⟨by omega,hnext hce,by omega,?_⟩,by simp (disch:=omega) only[agr,ZG,reduceEqDiff,↓reduceIte,Int.zero_add]⟩;rw[af (by omega),af (by omega),g0]
   ·clear zz;have zz:=aI @g0 (aI @az (aI @ar (aI @aS (aI @a6 (aI @cI (aI (show((0:Nat):Int)=0 from rfl) @hi0))))));repeat' (first|refine zW ?_|refine zM ?_|apply a_n|apply a_r|refine zO ?_|refine vY ?_|refine cY ?_ (hp:=by first|exact hv|exact hvs)|refine alY ?_|refine stY ?_|refine gFY ?_|refine cFY ?_|(refine zGY ?_ ?_<;>(intro _hg;try (exfalso;omega)))|refine ae rfl ?_|refine r1Y ?_|fail)
    refine aR ?_;rw[fin (by rw[hce];exact hW),hce]
  ·rw[if_pos hV] at hce;clear zz;have zz:=aI @g0 (aI @az (aI @ar (aI @aS (aI @a6 (aI @cI (aI (show((0:Nat):Int)=0 from rfl) @hi0))))));repeat' (first|refine zW ?_|apply a_n|apply a_r|refine zO ?_|refine vY ?_|refine cY ?_ (hp:=by first|exact hv|exact hvs)|refine alY ?_|refine stY ?_|(refine zGY ?_ ?_<;>(intro _hg;try (exfalso;omega)))|refine ae rfl ?_|refine r1Y ?_|fail)
   refine aR ?_;rw[fin (by rw[hce];exact hV),hce]
 ·have e1:(k:Int)-1=((k-1:Nat):Int):=by omega
  have ho:=eT (t.cases.getD (k-1) default).inp (t.cases.getD k default).inp (hs _ (an (by omega))).1 hsh.1;have hi1:=a6 (l:=t.cases) (k:=k-1) (by omega);rw[←e1] at hi1
  have hu:ci (t.cases.map CaseV.inp) k=decide (0≤bl (t.cases.getD (k-1) default).inp (t.cases.getD k default).inp):=by
   unfold ci;rw[kf hj,kf (by omega),cA (show 0<k by omega),Bool.true_and]
  rw[hu] at hce;generalize bl (t.cases.getD (k-1) default).inp (t.cases.getD k default).inp=O at *;generalize bH (t.cases.getD k default).inp t.n t.ins=V at *;generalize cp t.n t.outs (t.cases.getD k default)=W at *;by_cases hV:V=0
  ·subst hV;rw[if_neg (fun h=>h rfl)] at hce;by_cases hO:0≤O
   ·rw[cA hO,if_pos rfl] at hce;clear zz;have zz:=aI @g0 (aI @az (aI @ar (aI @aS (aI @a6 (aI @cI @hi1)))));repeat' (first|refine zW ?_|refine zM ?_|apply a_n|apply a_r|refine zO ?_|refine vY ?_|refine cY ?_ (hp:=by first|exact hv|exact hvs|exact ho)|refine alY ?_|refine stY ?_|refine gTY ?_|(refine zGY ?_ ?_<;>(intro _hg;try (exfalso;omega)))|refine ae rfl ?_|refine r1Y ?_|fail)
    refine aR ?_;rw[fin (by rw[hce];decide),hce]
   ·rw[dN hO,if_neg (by simp)] at hce;by_cases hW:W=0
    ·subst hW;clear zz;have zz:=aI @g0 (aI @az (aI @ar (aI @aS (aI @a6 (aI @cI @hi1)))));repeat' (first|refine zW ?_|refine zM ?_|apply a_n|refine zO ?_|refine vY ?_|refine cY ?_ (hp:=by first|exact hv|exact hvs|exact ho)|refine alY ?_|refine stY ?_|refine gTY ?_|(refine zGY ?_ ?_<;>(intro _hg;try (exfalso;omega)))|fail)
     refine⟨k+1,by omega,⟨by omega,hnext hce,by omega,?_⟩,ag0⟩;rw[af (by omega),af (by omega),g0]
    ·clear zz;have zz:=aI @g0 (aI @az (aI @ar (aI @aS (aI @a6 (aI @cI @hi1)))));repeat' (first|refine zW ?_|refine zM ?_|apply a_n|apply a_r|refine zO ?_|refine vY ?_|refine cY ?_ (hp:=by first|exact hv|exact hvs|exact ho)|refine alY ?_|refine stY ?_|refine gTY ?_|(refine zGY ?_ ?_<;>(intro _hg;try (exfalso;omega)))|refine ae rfl ?_|refine r1Y ?_|fail)
     refine aR ?_;rw[fin (by rw[hce];exact hW),hce]
  ·rw[if_pos hV] at hce;clear zz;have zz:=aI @g0 (aI @az (aI @ar (aI @aS (aI @a6 (aI @cI @hi1)))));repeat' (first|refine zW ?_|apply a_n|apply a_r|refine zO ?_|refine vY ?_|refine cY ?_ (hp:=by first|exact hv|exact hvs|exact ho)|refine alY ?_|refine stY ?_|(refine zGY ?_ ?_<;>(intro _hg;try (exfalso;omega)))|refine ae rfl ?_|refine r1Y ?_|fail)
   refine aR ?_;rw[fin (by rw[hce];exact hV),hce]
end Go.Proofs.YtcbkggfipdldaaaGreat
namespace Go.Proofs.YtcbkggfipdldaaaGreat
open Go Go.Abs
theorem n9{t:TaskV}(h:bU t=0):∀j i,i<j→j<t.cases.length→bl (t.cases.getD i default).inp (t.cases.getD j default).inp<0:=by
 intro j i hij hj
 have h2:cE (gN t) t.cases.length=0:=by
  unfold bU at h;split at h
  ·omega
  ·split at h
   ·omega
   ·exact h
 have:=uo (l:=t.cases.map CaseV.inp) (fun k hk=>by
  rw[dM] at hk;have h3:=dQ h2 k hk;unfold gN at h3;split at h3
  ·exact absurd h3 ‹_›
  ·split at h3
   ·omega
   ·simpa using ‹¬ci (t.cases.map CaseV.inp) k=true›) j i hij (by rw[dM];exact hj)
 rwa [kf (by omega),kf hj] at this
attribute [local irreducible] aG al bh a7 aV aU aB aX a9 bt Go.Abs.Fn aZ Go.Abs.Pure ax aO Yl
theorem AZ(a b:List Int)(ha:Sh a)(hb:Sh b):pU 31 [aC a,aC b] (.int .i64 (bl a b)):=by
 refine pO Cz ?_;simp only[b31,ay];have ha':a.length≤17592186044416:=ha;have hb':b.length≤17592186044416:=hb
 repeat' (first|refine zW ?_|apply a_n|refine zO ?_|refine vZ ?_|fail)
 refine dJ (X:=Nat) (fun k=>[(0,aC a),(1,aC b),(5,.int .i64 k)]) (fun k=>k≤a.length∧k≤b.length∧bl a b=bl (a.drop k) (b.drop k)) (fun k=>a.length-k) 0 ⟨cu _,cu _,rfl⟩ ag0 ?_;rintro k ⟨h1,h2,h3⟩;by_cases hka:k<a.length
 ·by_cases hkb:k<b.length
  ·rw[bO (l:=a) hka,bO (l:=b) hkb,bl] at h3;by_cases c1:a.getD k default<b.getD k default
   ·rw[if_pos c1] at h3;rw[h3]
    repeat' (first|refine zW ?_|apply a_n|apply a_r|refine zO ?_|refine vZ ?_|refine gTZ ?_|(refine zGZ ?_ ?_<;>(intro _hg;try (exfalso;omega)))|refine ae rfl ?_|refine r1Z ?_|fail)
    exact .int _ _
   ·rw[if_neg c1] at h3;by_cases c2:a.getD k default>b.getD k default
    ·rw[if_pos c2] at h3;rw[h3]
     repeat' (first|refine zW ?_|apply a_n|apply a_r|refine zO ?_|refine vZ ?_|refine gTZ ?_|(refine zGZ ?_ ?_<;>(intro _hg;try (exfalso;omega)))|refine ae rfl ?_|refine r1Z ?_|fail)
     exact .int _ _
    ·rw[if_neg c2] at h3
     repeat' (first|refine zW ?_|apply a_n|refine zO ?_|refine vZ ?_|refine gTZ ?_|(refine zGZ ?_ ?_<;>(intro _hg;try (exfalso;omega)))|fail)
     exact⟨k+1,⟨by omega,by omega,h3⟩,by omega,ag0,rfl,rfl⟩
  ·rw[jD (show b.length≤k by omega),bO (l:=a) hka] at h3;have h3:bl a b=1:=h3;rw[h3]
   repeat' (first|refine zW ?_|apply a_n|apply a_x|apply a_r|refine zO ?_|refine vZ ?_|refine gTZ ?_|(refine zGZ ?_ ?_<;>(intro _hg;try (exfalso;omega)))|refine ae rfl ?_|refine r1Z ?_|fail)
   exact .int _ _
 ·by_cases hkb:k<b.length
  ·rw[jD (show a.length≤k by omega),bO (l:=b) hkb] at h3;have h3:bl a b=-1:=h3;rw[h3]
   repeat' (first|refine zW ?_|apply a_n|apply a_x|apply a_r|refine zO ?_|refine vZ ?_|refine gFZ ?_|refine cFZ ?_|(refine zGZ ?_ ?_<;>(intro _hg;try (exfalso;omega)))|refine ae rfl ?_|refine r1Z ?_|fail)
   exact .int _ _
  ·rw[jD (show a.length≤k by omega),jD (show b.length≤k by omega)] at h3;have h3:bl a b=0:=h3;rw[h3]
   repeat' (first|refine zW ?_|apply a_n|apply a_x|refine zO ?_|refine vZ ?_|refine gFZ ?_|refine cFZ ?_|(refine zGZ ?_ ?_<;>(intro _hg;try (exfalso;omega)))|refine ae rfl ?_|refine r1Z ?_|fail)
   exact .int _ _
end Go.Proofs.YtcbkggfipdldaaaGreat
namespace Go.Proofs.YtcbkggfipdldaaaGreat
open Go Go.Abs
theorem j8{H:Hp}{d:Nat}{x y z:AV}:ee 3 (am H d [x,y,z]) (.msl d 3 3 0 1)=some (1,[x,y,z]):=jc (n:=3) (len:=1) (off:=0) (cs:=[x,y,z]) aj rfl (by simp)
theorem xd(c:CaseV):Dat (eb c):=Dat.agg (DatL.cons (bw _) (DatL.cons (bi _) (DatL.cons (bi _) DatL.nil)))
attribute [local irreducible] aG al bh a7 aV aU aB aX a9 bt Go.Abs.Fn aZ Go.Abs.Pure ax aO Yl
end Go.Proofs.YtcbkggfipdldaaaGreat
namespace Go.Proofs.YtcbkggfipdldaaaGreat
open Go Go.Abs
def swp{α:Type}[Inhabited α](L:List α)(i j:Nat):List α:=(L.set i (L.getD j default)).set j (L.getD i default)
structure PermR{α:Type}[Inhabited α](a b:Nat)(L L':List α):Prop where
 len:L'.length=L.length
 out:∀i,i<a∨b≤i→L'.getD i default=L.getD i default
 perm:L'.Perm L
section
variable{α:Type}[Inhabited α]{a b a' b':Nat}{L L' L'':List α}
theorem cr{l:List α}{i j:Nat}{x:α}(h:i<l.length):(l.set i x).getD j default=if i=j then x else l.getD j default:=by
 simp only[List.getD,List.getElem?_set];split
 ·rename_i e;subst e;simp[h]
 ·rfl
theorem qG(i j:Nat):(swp L i j).length=L.length:=by simp[swp]
theorem dq{i j:Nat}(hi:i<L.length)(hj:j<L.length)(k:Nat):(swp L i j).getD k default=if k=j then L.getD i default else if k=i then L.getD j default else L.getD k default:=by
 unfold swp;rw[cr (by simpa using hj),cr hi];by_cases e:k=j
 ·subst e;simp
 ·rw[if_neg (fun h=>e h.symm),if_neg e];by_cases e2:k=i
  ·subst e2;simp
  ·rw[if_neg (fun h=>e2 h.symm),if_neg e2]
theorem xJ{i j:Nat}(hi:i<L.length)(hj:j<L.length):(swp L i j).Perm L:=by
 unfold swp;have e1:L.getD i default=L[i]:=by simp[List.getD,hi]
 have e2:L.getD j default=L[j]:=by simp[List.getD,hj]
 rw[e1,e2];exact List.set_set_perm hi hj
theorem PermR.refl:PermR a b L L:=⟨rfl,fun _ _=>rfl,List.Perm.refl _⟩
theorem PermR.trans(h:PermR a b L L')(k:PermR a b L' L''):PermR a b L L'':=⟨k.len.trans h.len,fun i hi=>(k.out i hi).trans (h.out i hi),k.perm.trans h.perm⟩
theorem PermR.mono(h:PermR a' b' L L')(h1:a≤a')(h2:b'≤b):PermR a b L L':=⟨h.len,fun i hi=>h.out i (by omega),h.perm⟩
theorem PermR.swap{i j:Nat}(h1:a≤i∧i<b)(h2:a≤j∧j<b)(hb:b≤L.length):PermR a b L (swp L i j):=
 ⟨qG i j,fun k hk=>by rw[dq (by omega) (by omega),if_neg (by omega),if_neg (by omega)],xJ (by omega) (by omega)⟩
theorem rJ{l m:List α}(hl:l.length=m.length)(h:∀i,i<l.length→l.getD i default=m.getD i default):l=m:=
 List.ext_getElem hl (fun i h1 h2=>by
  have:=h i h1;simpa[List.getD,h1,h2] using this)
theorem PermR.mid(h:PermR a b L L')(hab:a≤b)(hb:b≤L.length):((L'.drop a).take (b-a)).Perm ((L.drop a).take (b-a)):=by
 have e1:∀M:List α,b≤M.length→M=M.take a++((M.drop a).take (b-a)++M.drop b):=fun M hM=>by
  have:M.drop b=(M.drop a).drop (b-a):=by rw[List.drop_drop];congr 1;omega
  rw[this,uq,uq]
 have t:L'.take a=L.take a:=rJ (by simp [h.len]) (fun i hi=>by
  have hi':i<a:=by simp at hi;omega
  rw[pF hi',pF hi'];exact h.out i (.inl hi'))
 have d:L'.drop b=L.drop b:=rJ (by simp [h.len]) (fun i hi=>by
  have e:∀M:List α,(M.drop b).getD i default=M.getD (b+i) default:=fun M=>by simp[List.getD,jw]
  rw[e,e];exact h.out (b+i) (.inr (by omega)))
 have p:=h.perm;rw[e1 L' (by rw[h.len];exact hb),e1 L hb,t,d] at p;exact(List.perm_append_right_iff _).1 ((List.perm_append_left_iff _).1 p)
theorem uz{M:List α}{x:α}(hab:a≤b)(hb:b≤M.length):x∈(M.drop a).take (b-a)↔ ∃i,a≤i∧i<b∧M.getD i default=x:=by
 constructor
 ·intro h;obtain⟨j,hj,e⟩:=fP h;have hj':j<b-a:=by simp at hj;omega
  refine⟨a+j,by omega,by omega,?_⟩;rw[←e];simp[List.getD,List.getElem_take,List.getElem_drop,show a+j<M.length by omega]
 ·rintro⟨i,h1,h2,rfl⟩;rw[List.mem_iff_getElem?];refine⟨i-a,?_⟩;rw[fT,if_pos (by omega),jw,show a+(i-a)=i by omega];simp[List.getD,show i<M.length by omega]
theorem PermR.all{p:α→Prop}(h:PermR a b L L')(hab:a≤b)(hb:b≤L.length)(hp:∀i,a≤i→i<b→p (L.getD i default)):∀i,a≤i→i<b→p (L'.getD i default):=by
 intro i h1 h2;have hm:L'.getD i default∈(L'.drop a).take (b-a):=(uz hab (by rw[h.len];exact hb)).2 ⟨i,h1,h2,rfl⟩;obtain⟨j,k1,k2,e⟩:=(uz hab hb).1 ((h.mid hab hb).mem_iff.1 hm);rw[←e];exact hp j k1 k2
end
structure Ord{α:Type}(K:α→α→Int):Prop where
 irr:∀x,¬K x x<0
 asym:∀x y,K x y<0→¬K y x<0
 negtr:∀x y z,¬K y x<0→¬K z y<0→¬K z x<0
def aW{α:Type}[Inhabited α](K:α→α→Int)(a b:Nat)(L:List α):Prop:=∀i j,a≤i→i<j→j<b→¬K (L.getD j default) (L.getD i default)<0
theorem aW.one{α:Type}[Inhabited α]{K:α→α→Int}{a b:Nat}{L:List α}(h:b≤a+1):aW K a b L:=fun i j h1 h2 h3=>by omega
structure Cmp{α:Type}(P:Program)(f:α→AV)(K:α→α→Int)(G:α→Prop)(g:Nat)(caps:List AV):Prop where
 cells:∀x,(f x).cells=[f x]
 one:∀x,(f x).one=true
 dat:∀x,Dat (f x)
 dcaps:∀x∈caps,Dat x
 run:∀x y,G x→G y→Go.Abs.Pure P g (f x::f y::caps) (.int .i64 (K x y))
 ord:Ord K
theorem fU{α:Type}{f:α→AV}{l:List α}{k:Nat}{x:α}(h:k<l.length):bv (l.map f) k [f x]=(l.set k x).map f:=by
 simp only[bv,List.map_set,de,dF,bQ];rw[zg,if_pos (by simpa using h)];simp
theorem ao(H:Hp)(b:Nat)(x y:List AV):am (am H b x) b y=am H b y:=by
 funext i;unfold am;split<;>rfl
theorem eh{H:Hp}{b:Nat}{cs:List AV}(h:H b=some cs):H=am H b cs:=by
 funext i
 by_cases e:i=b
 ·subst e;rw[aj,h]
 ·rw[af e]
def dY{α:Type}[Inhabited α](K:α→α→Int)(a i j:Nat)(M:List α):Prop:=∀p q,a≤p→p<q→q≤i→q≠j→¬K (M.getD q default) (M.getD p default)<0
section
variable{α:Type}[Inhabited α]{f:α→AV}{K:α→α→Int}{G:α→Prop}{g:Nat}{caps:List AV}
theorem dY.start{a i:Nat}{M:List α}(h:aW K a i M):dY K a i i M:=fun p q h1 h2 h3 h4=>h p q h1 h2 (by omega)
theorem dY.done{a i j:Nat}{M:List α}(hK:Ord K)(h:dY K a i j M)(hj:j=a∨(a<j∧¬K (M.getD j default) (M.getD (j-1) default)<0)):aW K a (i+1) M:=by
 intro p q h1 h2 h3;by_cases e:q=j
 ·subst e;rcases hj with hj|⟨hj,hk⟩
  ·omega
  ·by_cases e2:p=q-1
   ·rw[e2];exact hk
   ·exact hK.negtr _ _ _ (h p (q-1) h1 (by omega) (by omega) (by omega)) hk
 ·exact h p q h1 h2 (by omega) e
theorem dY.step{a i j:Nat}{M:List α}(hK:Ord K)(h:dY K a i (j+1) M)(haj:a≤j)(hji:j+1≤i)(hi:i<M.length)(hk:K (M.getD (j+1) default) (M.getD j default)<0):dY K a i j (swp M (j+1) j):=by
 intro p q h1 h2 h3 h4;rw[dq (by omega) (by omega),dq (by omega) (by omega)];rw[if_neg h4];by_cases e1:q=j+1
 ·rw[if_pos e1];by_cases e2:p=j
  ·rw[if_pos e2];exact hK.asym _ _ hk
  ·rw[if_neg e2,if_neg (by omega)];exact h p j h1 (by omega) (by omega) (by omega)
 ·rw[if_neg e1];by_cases e2:p=j
  ·rw[if_pos e2];exact h (j+1) q (by omega) (by omega) h3 e1
  ·rw[if_neg e2];by_cases e3:p=j+1
   ·rw[if_pos e3];exact h j q (by omega) (by omega) h3 e1
   ·rw[if_neg e3];exact h p q h1 h2 h3 e1
theorem aW.mono{a b a' b':Nat}{M:List α}(h:aW K a b M)(h1:a≤a')(h2:b'≤b):aW K a' b' M:=fun p q k1 k2 k3=>h p q (by omega) k2 (by omega)
theorem PermR.mem{a b:Nat}{L M:List α}(h:PermR a b L M)(hG:∀x∈L,G x):∀x∈M,G x:=fun x hx=>hG x (h.perm.mem_iff.1 hx)
attribute [local irreducible] aG al bh a7 aV aU aB aX a9 bt Go.Abs.Fn aZ Go.Abs.Pure ax aO Yl
theorem B0(hc:Cmp Tryz.prog f K G g caps){L:List α}{H:Hp}{b nx n a e:Nat}(hH:H b=some (L.map f))(hn:L.length=n)(hG:∀x∈L,G x)(hae:a≤e)(hen:e≤n)(hn2:n≤1000000000):
    Abs.Fn Tryz.prog 109 [.msl b n 1 0 n,.int .i64 a,.int .i64 e,.func g caps] H nx fun r H' nx'=>nx'=nx∧∃L',H'=am H b (L'.map f)∧PermR a e L L'∧aW K a e L':=by
 refine fO zQ ?_;simp only[AO,ay]
 repeat' (first|refine zW ?_|apply a_n|refine zO ?_|refine vZ ?_|fail)
 refine bo (X:=Nat×List α) (fun x=>[(0,.msl b n 1 0 n),(1,.int .i64 a),(2,.int .i64 e),(3,.func g caps),(8,.int .i64 (x.1:Nat))]) (fun x H' nx'=>a+1≤x.1∧(x.1≤e∨x.1=a+1)∧H'=am H b (x.2.map f)∧nx'=nx∧PermR a e L x.2∧aW K a x.1 x.2) (fun x=>e+1-x.1) (a+1,L) ⟨aM _,.inr rfl,eh hH,rfl,.refl,aW.one (aM _)⟩ ag0 ?_;rintro⟨i,M0⟩ H' nx' ⟨h1,h2,rfl,rfl,hp0,hs0⟩;dsimp only at *;have hl0:M0.length=n:=by rw[hp0.len,hn]
 by_cases hi:i<e
 rotate_left
 ·repeat' (first|refine zW ?_|apply a_n|apply a_x|refine zO ?_|refine vZ ?_|(refine zGZ ?_ ?_<;>(intro _hg;try (exfalso;omega)))|refine ae rfl ?_|fail)
  exact⟨rfl,M0,rfl,hp0,hs0.mono (aM _) (by omega)⟩
 repeat' (first|refine zW ?_|apply a_n|refine zO ?_|refine vZ ?_|(refine zGZ ?_ ?_<;>(intro _hg;try (exfalso;omega)))|fail)
 refine bo (X:=Nat×List α) (fun x=>[(0,.msl b n 1 0 n),(1,.int .i64 a),(2,.int .i64 e),(3,.func g caps),(8,.int .i64 (i:Nat)),(9,.int .i64 (x.1:Nat))]) (fun x H' nxx=>a≤x.1∧x.1≤i∧H'=am H b (x.2.map f)∧nxx=nx'∧PermR a e L x.2∧dY K a i x.1 x.2) (fun x=>x.1) (i,M0) ⟨by omega,aM _,rfl,rfl,hp0,.start hs0⟩ ag0 ?_;clear hp0 hs0 hl0;rintro⟨j,M⟩ H' nxx ⟨a1,a2,rfl,rfl,hp,hal⟩;dsimp only at *;have hl:M.length=n:=by rw[hp.len,hn]
 have hGM:=hp.mem hG;by_cases hja:j=a
 ·subst hja
  repeat' (first|refine zW ?_|refine zM ?_|apply a_n|apply a_x|refine zO ?_|refine vZ ?_|refine gFZ ?_|(refine zGZ ?_ ?_<;>(intro _hg;try (exfalso;omega)))|refine cFZ ?_|fail)
  exact⟨(i+1,M),by dsimp only;omega,⟨by dsimp only;omega,.inl (by dsimp only;omega),rfl,rfl,hp,hal.done hc.ord (.inl rfl)⟩,ag0⟩
 ·obtain⟨k,rfl⟩:∃k,j=k+1:=⟨j-1,by omega⟩
  have tj:((k+1:Nat):Int)-1=(k:Int):=by omega
  have lc:=hc.run (M.getD (k+1) default) (M.getD k default) (hGM _ (an (by omega))) (hGM _ (an (by omega)));have d1:=hc.dat (M.getD (k+1) default);have d2:=hc.dat (M.getD k default);have dcap:=hc.dcaps;generalize hKK:K (M.getD (k+1) default) (M.getD k default)=kk at lc;by_cases hlt:kk<0
  ·obtain⟨M1,hl1,lm1,lm2⟩:∃M1:List α,M1.length=n∧bv (M.map f) (k+1) [f (M.getD k default)]=M1.map f∧bv (M1.map f) k [f (M.getD (k+1) default)]=(swp M (k+1) k).map f:=
     ⟨M.set (k+1) (M.getD k default),by simp[hl],fU (by omega),by rw[fU (by simp;omega)];rfl⟩
   have lm3:=lm2;simp only[bv,de,dF,bQ] at lm1 lm2;have zz:=aI @tj (aI @bD (aI @lm1 (aI @lm2 (aI hc.cells hc.one))));repeat' (first|refine zW ?_|refine zM ?_|apply a_n|refine zO ?_|refine vZ ?_|refine cZ ?_ (hp:=lc) (hs:=by(first|refine ak ?_ rfl|apply au);(repeat' (first|exact ai|apply aD|apply aw|exact d1|exact d2|exact av dcap));first|done|fail)|refine stZ ?_|refine gTZ ?_|(refine zGZ ?_ ?_<;>(intro _hg;try (exfalso;omega)))|fail)
   refine⟨(k,swp M (k+1) k),by dsimp only;omega,⟨by dsimp only;omega,by dsimp only;omega,?_,rfl,hp.trans (PermR.swap (by omega) (by omega) (by omega)),hal.step hc.ord (by omega) (by omega) (by omega) (by rw[hKK];exact hlt)⟩,(have zz:=@tj;agZ)⟩;dsimp only;rw[ao,ao,lm3]
  ·have zz:=aI @tj (aI @bD (aI hc.cells hc.one));repeat' (first|refine zW ?_|refine zM ?_|apply a_n|apply a_x|refine zO ?_|refine vZ ?_|refine cZ ?_ (hp:=lc) (hs:=by(first|refine ak ?_ rfl|apply au);(repeat' (first|exact ai|apply aD|apply aw|exact d1|exact d2|exact av dcap));first|done|fail)|refine gTZ ?_|(refine zGZ ?_ ?_<;>(intro _hg;try (exfalso;omega)))|fail)
   exact⟨(i+1,M),by dsimp only;omega,⟨by dsimp only;omega,.inl (by dsimp only;omega),rfl,rfl,hp,hal.done hc.ord (.inr ⟨by omega,by rw[jE,hKK];exact hlt⟩)⟩,ag0⟩
end
end Go.Proofs.YtcbkggfipdldaaaGreat
namespace Go.Proofs.YtcbkggfipdldaaaGreat
open Go Go.Abs
def Kid(p c:Nat):Prop:=c=2*p+1∨c=2*p+2
def ed{α:Type}[Inhabited α](K:α→α→Int)(a hi r:Nat)(M:List α):Prop:=∀p c,r≤p→Kid p c→c<hi→¬K (M.getD (a+p) default) (M.getD (a+c) default)<0
structure SiftR{α:Type}[Inhabited α](K:α→α→Int)(a hi lo root:Nat)(M:List α):Prop where
 le:lo≤root
 heap:∀p c,lo≤p→p≠root→Kid p c→c<hi→¬K (M.getD (a+p) default) (M.getD (a+c) default)<0
 up:∀q c,lo≤q→Kid q root→Kid root c→c<hi→¬K (M.getD (a+q) default) (M.getD (a+c) default)<0
section
variable{α:Type}[Inhabited α]{f:α→AV}{K:α→α→Int}{G:α→Prop}{g:Nat}{caps:List AV}
theorem SiftR.start{a hi lo:Nat}{M:List α}(h:ed K a hi (lo+1) M):SiftR K a hi lo lo M:=
 ⟨aM _,fun p c h1 h2=>h p c (by omega),fun q c h1 h2=>by unfold Kid at h2;omega⟩
theorem SiftR.leaf{a hi lo root:Nat}{M:List α}(h:SiftR K a hi lo root M)(hr:hi≤2*root+1):ed K a hi lo M:=fun p c h1 h2 h3=>by
 by_cases e:p=root
 ·subst e;unfold Kid at h2;omega
 ·exact h.heap p c h1 e h2 h3
theorem SiftR.stop{a hi lo root c:Nat}{M:List α}(hK:Ord K)(h:SiftR K a hi lo root M)(hb:∀d,Kid root d→d<hi→¬K (M.getD (a+c) default) (M.getD (a+d) default)<0)(hn:¬K (M.getD (a+root) default) (M.getD (a+c) default)<0):ed K a hi lo M:=fun p d h1 h2 h3=>by
 by_cases e:p=root
 ·subst e;exact hK.negtr _ _ _ (hb d h2 h3) hn
 ·exact h.heap p d h1 e h2 h3
theorem SiftR.step{a hi lo root c:Nat}{M:List α}(hK:Ord K)(h:SiftR K a hi lo root M)(hkid:Kid root c)(hc:c<hi)(hM:a+hi≤M.length)(hb:∀d,Kid root d→d<hi→¬K (M.getD (a+c) default) (M.getD (a+d) default)<0)(hn:K (M.getD (a+root) default) (M.getD (a+c) default)<0):SiftR K a hi lo c (swp M (a+root) (a+c)):=by
 have hrc:root<c:=by unfold Kid at hkid;omega
 have hg:∀k,(swp M (a+root) (a+c)).getD (a+k) default=if k=c then M.getD (a+root) default else if k=root then M.getD (a+c) default else M.getD (a+k) default:=fun k=>by
  rw[dq (by omega) (by omega)];by_cases e:k=c
  ·rw[if_pos (by omega),if_pos e]
  ·rw[if_neg (by omega),if_neg e];by_cases e2:k=root
   ·rw[if_pos (by omega),if_pos e2]
   ·rw[if_neg (by omega),if_neg e2]
 refine⟨by have:=h.le;omega,fun p d h1 h2 h3 h4=>?_,fun q d h1 h2 h3 h4=>?_⟩
 ·rw[hg,hg,if_neg h2];by_cases e1:p=root
  ·rw[if_pos e1];subst e1;by_cases e2:d=c
   ·rw[if_pos e2];exact hK.asym _ _ hn
   ·rw[if_neg e2,if_neg (by unfold Kid at h3;omega)];exact hb d h3 h4
  ·rw[if_neg e1];have hdc:d≠c:=fun e=>by subst e;unfold Kid at h3 hkid;omega
   rw[if_neg hdc];by_cases e2:d=root
   ·rw[if_pos e2];subst e2;exact h.up p c h1 h3 hkid hc
   ·rw[if_neg e2];exact h.heap p d h1 e1 h3 h4
 ·have eq:q=root:=by unfold Kid at h2 hkid;omega
  subst eq;rw[hg,hg,if_neg (by omega),if_pos rfl,if_neg (by unfold Kid at h3;omega),if_neg (by unfold Kid at h3;omega)];exact h.heap c d (by omega) (by omega) h3 h4
theorem da{M:List α}{i j:Nat}(hi:i<M.length)(hj:j<M.length):∃M1:List α,M1.length=M.length∧bv (M.map f) i [f (M.getD j default)]=M1.map f∧bv (M1.map f) j [f (M.getD i default)]=(swp M i j).map f:=
 ⟨M.set i (M.getD j default),by simp,fU hi,by rw[fU (by simpa using hj)];rfl⟩
theorem cz{a c:Nat}:((a:Int)+(c:Int)).toNat=a+c:=by omega
theorem f8{a c:Nat}:((a:Int)+(c:Int)+1).toNat=a+(c+1):=by omega
attribute [local irreducible] aG al bh a7 aV aU aB aX a9 bt Go.Abs.Fn aZ Go.Abs.Pure ax aO Yl
theorem yt(hc:Cmp Tryz.prog f K G g caps){L:List α}{H:Hp}{b nx n a lo hi:Nat}(hH:H b=some (L.map f))(hn:L.length=n)(hG:∀x∈L,G x)(hhi:a+hi≤n)(hn2:n≤1000000000)(hlo:lo≤n)(hheap:ed K a hi (lo+1) L):
    Abs.Fn Tryz.prog 127 [.msl b n 1 0 n,.int .i64 lo,.int .i64 hi,.int .i64 a,.func g caps] H nx fun r H' nx'=>nx'=nx∧∃L',H'=am H b (L'.map f)∧PermR a (a+hi) L L'∧ed K a hi lo L':=by
 refine fO Be ?_;simp only[Ci,ay]
 repeat' (first|refine zW ?_|apply a_n|refine zO ?_|refine vZ ?_|fail)
 refine bo (X:=Nat×List α) (fun x=>[(0,.msl b n 1 0 n),(2,.int .i64 hi),(3,.int .i64 a),(4,.func g caps),(10,.int .i64 (x.1:Nat))]) (fun x H' nx'=>x.1≤n∧H'=am H b (x.2.map f)∧nx'=nx∧PermR a (a+hi) L x.2∧SiftR K a hi lo x.1 x.2) (fun x=>n+1-x.1) (lo,L) ⟨hlo,eh hH,rfl,.refl,.start hheap⟩ ag0 ?_;rintro⟨root,M⟩ H' nx' ⟨h0,rfl,rfl,hp,hs⟩;dsimp only at *;have hl:M.length=n:=by rw[hp.len,hn]
 have hGM:=hp.mem hG;by_cases hch:2*root+1<hi
 rotate_left
 ·repeat' (first|refine zW ?_|apply a_n|apply a_x|refine zO ?_|refine vZ ?_|(refine zGZ ?_ ?_<;>(intro _hg;try (exfalso;omega)))|refine ae rfl ?_|fail)
  exact⟨rfl,M,rfl,hp,hs.leaf (by omega)⟩
 have dcap:=hc.dcaps;have tch:(2:Int)*(root:Int)+1=((2*root+1:Nat):Int):=by omega
 have tch2:((2*root+1:Nat):Int)+1=((2*root+1+1:Nat):Int):=by omega
 have w1:IntKind.wrap .i64 (2*(root:Int))=2*(root:Int):=j5 (by omega) (by omega)
 obtain⟨c,hkid,hchi,hbest,hsel⟩:∃c,Kid root c∧c<hi∧(∀d,Kid root d→d<hi→¬K (M.getD (a+c) default) (M.getD (a+d) default)<0)∧((c=2*root+1+1∧K (M.getD (a+(2*root+1)) default) (M.getD (a+(2*root+1+1)) default)<0)∨(c=2*root+1∧(2*root+1+1<hi→¬K (M.getD (a+(2*root+1)) default) (M.getD (a+(2*root+1+1)) default)<0))):=by
  by_cases h2:2*root+1+1<hi∧K (M.getD (a+(2*root+1)) default) (M.getD (a+(2*root+1+1)) default)<0
  ·refine⟨2*root+1+1,.inr rfl,h2.1,fun d hd hd2=>?_,.inl ⟨rfl,h2.2⟩⟩;rcases hd with rfl|rfl
   ·exact hc.ord.asym _ _ h2.2
   ·exact hc.ord.irr _
  ·refine⟨2*root+1,.inl rfl,hch,fun d hd hd2=>?_,.inr ⟨rfl,fun h h3=>h2 ⟨h,h3⟩⟩⟩;rcases hd with rfl|rfl
   ·exact hc.ord.irr _
   ·exact fun h3=>h2 ⟨hd2,h3⟩
 have lc2:=hc.run (M.getD (a+root) default) (M.getD (a+c) default) (hGM _ (an (by omega))) (hGM _ (an (by omega)));have e1:=hc.dat (M.getD (a+root) default);have e2:=hc.dat (M.getD (a+c) default);generalize hK2:K (M.getD (a+root) default) (M.getD (a+c) default)=k2 at lc2;refine dg ?_;refine aQ (fun T H'' nx''=>T 0=.msl b n 1 0 n∧T 2=.int .i64 hi∧T 3=.int .i64 a∧T 4=.func g caps∧T 10=.int .i64 (root:Nat)∧T 11=.int .i64 ((2*root+1:Nat):Int)∧H''=am H b (M.map f)∧nx'=nx'') ?_ ?_
 ·have zz:=aI @w1 @tch;repeat' (first|apply a_n|refine zO ?_|refine vZ ?_|fail)
  exact⟨rfl,rfl,rfl,rfl,rfl,rfl,rfl,rfl⟩
 rintro T _ _ ⟨t0,t2,t3,t4,t10,t11,rfl,rfl⟩;refine aQ (fun T H'' nx''=>T 0=.msl b n 1 0 n∧T 2=.int .i64 hi∧T 3=.int .i64 a∧T 4=.func g caps∧T 10=.int .i64 (root:Nat)∧T 11=.int .i64 ((2*root+1:Nat):Int)∧H''=am H b (M.map f)∧nx'=nx'') ?_ ?_
 ·have zz:=aI @t0 (aI @t2 (aI @t3 (aI @t4 (aI @t10 @t11))));repeat' (first|refine zW ?_|apply a_n|refine zO ?_|refine vZ ?_|(refine zGZ ?_ ?_<;>(intro _hg;try (exfalso;omega)))|fail)
  all_goals exact⟨(have zz:=@t0;evZ),(have zz:=@t2;evZ),(have zz:=@t3;evZ),(have zz:=@t4;evZ),(have zz:=@t10;evZ),(have zz:=@t11;evZ),rfl,rfl⟩
 clear t0 t2 t3 t4 t10 t11;rintro T _ _ ⟨t0,t2,t3,t4,t10,t11,rfl,rfl⟩;refine aQ (fun T H'' nx''=>T 0=.msl b n 1 0 n∧T 2=.int .i64 hi∧T 3=.int .i64 a∧T 4=.func g caps∧T 10=.int .i64 (root:Nat)∧T 11=.int .i64 (c:Nat)∧H''=am H b (M.map f)∧nx'=nx'') ?_ ?_
 ·by_cases h2:2*root+1+1<hi
  ·have lc1:=hc.run (M.getD (a+(2*root+1)) default) (M.getD (a+(2*root+1+1)) default) (hGM _ (an (by omega))) (hGM _ (an (by omega)));have e3:=hc.dat (M.getD (a+(2*root+1)) default);have e4:=hc.dat (M.getD (a+(2*root+1+1)) default);generalize hK1:K (M.getD (a+(2*root+1)) default) (M.getD (a+(2*root+1+1)) default)=k1 at lc1 hsel;have hlt:decide (((2*root+1+1:Nat):Int)<(hi:Int))=true:=cA (by omega);generalize 2*root+1=ch at *;rcases hsel with⟨rfl,hk1⟩|⟨rfl,hk1⟩
   ·have zz:=aI @t0 (aI @t2 (aI @t3 (aI @t4 (aI @t10 (aI @t11 (aI @tch2 (aI @hlt (aI @cz (aI @f8 (aI hc.cells hc.one))))))))));repeat' (first|refine zW ?_|refine zM ?_|apply a_n|refine zO ?_|refine vZ ?_|refine cZ ?_ (hp:=lc1) (hs:=by(first|refine ak ?_ rfl|apply au);(repeat' (first|exact ai|apply aD|apply aw|exact e3|exact e4|exact av dcap));first|done|fail)|refine gTZ ?_|(refine zGZ ?_ ?_<;>(intro _hg;try (exfalso;omega)))|fail)
    all_goals exact⟨(have zz:=@t0;evZ),(have zz:=@t2;evZ),(have zz:=@t3;evZ),(have zz:=@t4;evZ),(have zz:=@t10;evZ),(have zz:=@t11;evZ),rfl,rfl⟩
   ·have hk1:=hk1 h2;have zz:=aI @t0 (aI @t2 (aI @t3 (aI @t4 (aI @t10 (aI @t11 (aI @tch2 (aI @hlt (aI @cz (aI @f8 (aI hc.cells hc.one))))))))));repeat' (first|refine zW ?_|refine zM ?_|apply a_n|refine zO ?_|refine vZ ?_|refine cZ ?_ (hp:=lc1) (hs:=by(first|refine ak ?_ rfl|apply au);(repeat' (first|exact ai|apply aD|apply aw|exact e3|exact e4|exact av dcap));first|done|fail)|refine gTZ ?_|(refine zGZ ?_ ?_<;>(intro _hg;try (exfalso;omega)))|fail)
    all_goals exact⟨(have zz:=@t0;evZ),(have zz:=@t2;evZ),(have zz:=@t3;evZ),(have zz:=@t4;evZ),(have zz:=@t10;evZ),(have zz:=@t11;evZ),rfl,rfl⟩
  ·have hlt:decide (((2*root+1+1:Nat):Int)<(hi:Int))=false:=dN (by omega)
   have hcc:c=2*root+1:=by
    rcases hsel with⟨rfl,_⟩|⟨rfl,_⟩
    ·omega
    ·rfl
   subst hcc;have zz:=aI @t0 (aI @t2 (aI @t3 (aI @t4 (aI @t10 (aI @t11 (aI @tch2 @hlt))))));repeat' (first|refine zW ?_|refine zM ?_|apply a_n|refine zO ?_|refine vZ ?_|refine gFZ ?_|refine cFZ ?_|fail)
   all_goals exact⟨(have zz:=@t0;evZ),(have zz:=@t2;evZ),(have zz:=@t3;evZ),(have zz:=@t4;evZ),(have zz:=@t10;evZ),(have zz:=@t11;evZ),rfl,rfl⟩
 clear t0 t2 t3 t4 t10 t11 hsel;rintro T _ _ ⟨t0,t2,t3,t4,t10,t11,rfl,rfl⟩;by_cases hk2:k2<0
 ·obtain⟨M1,hl1,lm1,lm2⟩:=da (f:=f) (M:=M) (i:=a+root) (j:=a+c) (by omega) (by omega);have lm3:=lm2;simp only[bv,de,dF,bQ] at lm1 lm2;have zz:=aI @t0 (aI @t2 (aI @t3 (aI @t4 (aI @t10 (aI @t11 (aI @cz (aI @lm1 (aI @lm2 (aI hc.cells hc.one)))))))));repeat' (first|refine zW ?_|refine zM ?_|apply a_n|refine zO ?_|refine vZ ?_|refine cZ ?_ (hp:=lc2) (hs:=by(first|refine ak ?_ rfl|apply au);(repeat' (first|exact ai|apply aD|apply aw|exact e1|exact e2|exact av dcap));first|done|fail)|refine stZ ?_|(refine zGZ ?_ ?_<;>(intro _hg;try (exfalso;omega)))|fail)
  have hrc:root<c:=by unfold Kid at hkid;omega
  have hcn:c<n:=by omega
  refine⟨(c,swp M (a+root) (a+c)),by dsimp only;omega,⟨by dsimp only;omega,?_,rfl,hp.trans (PermR.swap (by omega) (by omega) (by omega)),hs.step hc.ord hkid hchi (by omega) hbest (by rw[hK2];exact hk2)⟩,(have zz:=aI @t0 (aI @t2 (aI @t3 @t4));agZ)⟩;dsimp only;rw[ao,ao,lm3]
 ·have zz:=aI @t0 (aI @t2 (aI @t3 (aI @t4 (aI @t10 (aI @t11 (aI @cz (aI hc.cells hc.one)))))));repeat' (first|refine zW ?_|refine zM ?_|apply a_n|apply a_r|refine zO ?_|refine vZ ?_|refine cZ ?_ (hp:=lc2) (hs:=by(first|refine ak ?_ rfl|apply au);(repeat' (first|exact ai|apply aD|apply aw|exact e1|exact e2|exact av dcap));first|done|fail)|(refine zGZ ?_ ?_<;>(intro _hg;try (exfalso;omega)))|refine ae rfl ?_|fail)
  exact⟨rfl,M,rfl,hp,hs.stop hc.ord hbest (by rw[hK2];exact hk2)⟩
end
end Go.Proofs.YtcbkggfipdldaaaGreat
namespace Go.Proofs.YtcbkggfipdldaaaGreat
open Go Go.Abs
open Nat (reduceEqDiff reduceAdd reduceLeDiff)
section
variable{α:Type}[Inhabited α]{f:α→AV}{K:α→α→Int}{G:α→Prop}{g:Nat}{caps:List AV}
theorem ed.top{a hi:Nat}{M:List α}(hK:Ord K)(h:ed K a hi 0 M):∀p,p<hi→¬K (M.getD a default) (M.getD (a+p) default)<0:=by
 intro p
 induction p using Nat.strongRecOn with
 |ind p ih=>
  intro hp;by_cases e:p=0
  ·subst e;exact hK.irr _
  ·have k:Kid ((p-1)/2) p:=by unfold Kid;omega
   exact hK.negtr _ _ _ (h _ p (cu _) k hp) (ih ((p-1)/2) (by omega) (by omega))
structure TailR{α:Type}[Inhabited α](K:α→α→Int)(a e k:Nat)(M:List α):Prop where
 sort:aW K k e M
 ge:∀p q,a≤p→p<k→k≤q→q<e→¬K (M.getD q default) (M.getD p default)<0
theorem TailR.step{a e k:Nat}{M N:List α}(hK:Ord K)(ht:TailR K a e (a+(k+1)) M)(hh:ed K a (k+1) 0 M)(he:a+(k+1)≤e)(hM:e≤M.length)(hp:PermR a (a+k) (swp M a (a+k)) N):TailR K a e (a+k) N:=by
 have hg:∀j,(swp M a (a+k)).getD j default=if j=a+k then M.getD a default else if j=a then M.getD (a+k) default else M.getD j default:=fun j=>dq (by omega) (by omega) j
 have hmax:=hh.top hK
 have lo:∀q,a+k≤q→q<e→∀p,a≤p→p<a+k→¬K (N.getD q default) (N.getD p default)<0:=by
  intro q h1 h2;rw[hp.out q (.inr h1),hg];have hl:(swp M a (a+k)).length=M.length:=qG _ _;refine hp.all (p:=fun x=>¬K (if q=a+k then M.getD a default else if q=a then M.getD (a+k) default else M.getD q default) x<0) (by omega) (by omega) ?_;intro p k1 k2;rw[hg,if_neg (by omega:¬p=a+k)];by_cases e1:q=a+k
  ·rw[if_pos e1];by_cases e2:p=a
   ·rw[if_pos e2];exact hmax k (by omega)
   ·rw[if_neg e2];have:=hmax (p-a) (by omega);rw[show a+(p-a)=p by omega] at this;exact this
  ·rw[if_neg e1,if_neg (by omega:¬q=a)];by_cases e2:p=a
   ·rw[if_pos e2];exact ht.ge (a+k) q (by omega) (by omega) (by omega) h2
   ·rw[if_neg e2];exact ht.ge p q k1 (by omega) (by omega) h2
 refine⟨fun p q h1 h2 h3=>?_,fun p q h1 h2 h3 h4=>lo q h3 h4 p h1 h2⟩;rw[hp.out p (.inr h1),hp.out q (.inr (by omega)),hg,hg,if_neg (by omega:¬q=a+k),if_neg (by omega:¬q=a)];by_cases e1:p=a+k
 ·rw[if_pos e1];exact ht.ge a q (aM _) (by omega) (by omega) h3
 ·rw[if_neg e1,if_neg (by omega:¬p=a)];exact ht.sort p q (by omega) h2 h3
theorem ed.swapTop{a k:Nat}{M:List α}(h:ed K a (k+1) 0 M)(hM:a+(k+1)≤M.length):ed K a k 1 (swp M a (a+k)):=by
 intro p c h1 h2 h3;have hg:∀j,(swp M a (a+k)).getD j default=if j=a+k then M.getD a default else if j=a then M.getD (a+k) default else M.getD j default:=fun j=>dq (by omega) (by omega) j
 have:p<c:=by unfold Kid at h2;omega
 rw[hg,hg,if_neg (by omega),if_neg (by omega),if_neg (by omega),if_neg (by omega)];exact h p c (cu _) h2 (by omega)
theorem TailR.start{a e:Nat}{M:List α}:TailR K a e e M:=⟨fun p q h1 h2 h3=>by omega,fun p q h1 h2 h3 h4=>by omega⟩
theorem TailR.done{a e:Nat}{M:List α}(h:TailR K a e a M):aW K a e M:=h.sort
theorem ed.start{a hi r:Nat}{M:List α}(hr:hi≤2*r+1):ed K a hi r M:=fun p c h1 h2 h3=>by unfold Kid at h2;omega
attribute [local irreducible] aG al bh a7 aV aU aB aX a9 bt Go.Abs.Fn aZ Go.Abs.Pure ax aO Yl
theorem Aw(hc:Cmp Tryz.prog f K G g caps){L:List α}{H:Hp}{b nx n a e:Nat}(hH:H b=some (L.map f))(hn:L.length=n)(hG:∀x∈L,G x)(hae:a≤e)(hen:e≤n)(hn2:n≤1000000000):
    Abs.Fn Tryz.prog 110 [.msl b n 1 0 n,.int .i64 a,.int .i64 e,.func g caps] H nx fun r H' nx'=>nx'=nx∧∃L',H'=am H b (L'.map f)∧PermR a e L L'∧aW K a e L':=by
 obtain⟨h,rfl⟩:∃h,e=a+h:=⟨e-a,by omega⟩
 refine fO BQ ?_;simp only[Bm,ay];have dcap:=hc.dcaps;have te:((a+h:Nat):Int)-(a:Int)=(h:Int):=by omega
 obtain⟨r,tr,hr,hrn⟩:∃r:Nat,bb .quo false false (.int .i64 ((h:Int)-1)) (.int .i64 2)=some (.int .i64 (r:Int))∧h≤2*(r+1)+1∧r≤h:=by
  rcases mS h with e|e
  ·subst e;exact⟨0,rfl,by omega,by omega⟩
  ·refine⟨(h-1)/2,?_,by omega,by omega⟩;rw[gd (by omega) (by omega) (by omega)]
   congr 2
   omega
 have zz:=aI @te @tr;repeat' (first|refine zW ?_|apply a_n|refine zO ?_|refine vZ ?_|fail)
 refine bo (X:=Nat×List α) (fun x=>[(0,.msl b n 1 0 n),(1,.int .i64 a),(3,.func g caps),(8,.int .i64 a),(9,.int .i64 0),(10,.int .i64 h),(11,.int .i64 ((x.1:Nat)-1))]) (fun x H' nxx=>x.1≤n+1∧H'=am H b (x.2.map f)∧nx=nxx∧PermR a (a+h) L x.2∧ed K a h x.1 x.2) (fun x=>x.1) (r+1,L) ⟨by dsimp only;omega,eh hH,rfl,.refl,ed.start (by dsimp only;omega)⟩ (by simp (disch:=omega) only[agr,ZG,reduceEqDiff,↓reduceIte,Int.add_sub_cancel]) ?_;rintro⟨i,M⟩ H' nxx ⟨h1,rfl,rfl,hp,hh⟩;dsimp only at *;have hl:M.length=n:=by rw[hp.len,hn]
 have hGM:=hp.mem hG;rcases mS i with e|e
 ·subst e
  repeat' (first|refine zW ?_|apply a_n|apply a_x|refine zO ?_|refine vZ ?_|(refine zGZ ?_ ?_<;>(intro _hg;try (exfalso;omega)))|fail)
  clear zz;clear hGM;refine bo (X:=Nat×List α) (fun x=>[(0,.msl b n 1 0 n),(3,.func g caps),(8,.int .i64 a),(9,.int .i64 0),(12,.int .i64 ((x.1:Nat)-1))]) (fun x H' nxx'=>x.1≤h∧H'=am H b (x.2.map f)∧nx=nxx'∧PermR a (a+h) L x.2∧ed K a x.1 0 x.2∧TailR K a (a+h) (a+x.1) x.2) (fun x=>x.1) (h,M) ⟨aM _,rfl,rfl,hp,hh,.start⟩ (by simp (disch:=omega) only[agr,ZG,reduceEqDiff,↓reduceIte,Int.add_sub_cancel]) ?_;clear hp hh hl;rintro⟨i,M⟩ H' nxx ⟨h1,rfl,rfl,hp,hh,ht⟩;dsimp only at *;have hl:M.length=n:=by rw[hp.len,hn]
  have hGM:=hp.mem hG;rcases mS i with e|e
  ·subst e
   repeat' (first|refine zW ?_|apply a_n|apply a_x|refine zO ?_|refine vZ ?_|(refine zGZ ?_ ?_<;>(intro _hg;try (exfalso;omega)))|refine ae rfl ?_|fail)
   exact⟨rfl,M,rfl,hp,ht.done⟩
  ·obtain⟨k,rfl⟩:∃k,i=k+1:=⟨i-1,by omega⟩
   have tj:((k+1:Nat):Int)-1=(k:Int):=by omega
   obtain⟨M1,hl1,lm1,lm2⟩:=da (f:=f) (M:=M) (i:=a) (j:=a+k) (by omega) (by omega);have lm3:=lm2;simp only[bv,de,dF,bQ] at lm1 lm2;have hp1:PermR a (a+h) L (swp M a (a+k)):=hp.trans (PermR.swap (by omega) (by omega) (by omega));have hsl:(swp M a (a+k)).length=n:=by rw[hp1.len,hn]
   have zz:=aI @tj (aI @cz (aI @lm1 (aI @lm2 (aI hc.cells hc.one))));repeat' (first|refine zW ?_|apply a_n|refine zO ?_|refine vZ ?_|refine stZ ?_|(refine zGZ ?_ ?_<;>(intro _hg;try (exfalso;omega)))|fail)
   refine aJ ev0 (have zz:=aI @tj @Int.natCast_zero;evZ) (yt hc (b:=b) (L:=swp M a (a+k)) (a:=a) (lo:=0) (hi:=k) (by rw[ao,ao,aj,←lm3]) hsl (hp1.mem hG) (by omega) (by omega) (by omega) (hh.swapTop (by omega))) ?_;rintro _ _ _ ⟨rfl,N,rfl,hpN,hhN⟩;clear zz;have zz:=@tj;repeat' (first|apply a_n|refine zO ?_|refine vZ ?_|fail)
   exact⟨(k,N),by dsimp only;omega,⟨by dsimp only;omega,by dsimp only;rw[ao,ao,ao],rfl,hp1.trans (hpN.mono (aM _) (by omega)),hhN,ht.step hc.ord hh (by omega) (by omega) hpN⟩,ag0⟩
 ·obtain⟨k,rfl⟩:∃k,i=k+1:=⟨i-1,by omega⟩
  have tj:((k+1:Nat):Int)-1=(k:Int):=by omega
  clear zz;have zz:=@tj;repeat' (first|refine zW ?_|apply a_n|refine zO ?_|refine vZ ?_|(refine zGZ ?_ ?_<;>(intro _hg;try (exfalso;omega)))|fail)
  refine aJ ev0 ev0 (yt hc (L:=M) (a:=a) (lo:=k) (hi:=h) aj hl hGM (by omega) (by omega) (by omega) hh) ?_;rintro _ _ _ ⟨rfl,N,rfl,hpN,hhN⟩;clear zz;have zz:=@tj;repeat' (first|apply a_n|refine zO ?_|refine vZ ?_|fail)
  exact⟨(k,N),by dsimp only;omega,⟨by dsimp only;omega,by dsimp only;rw[ao],rfl,hp.trans hpN,hhN⟩,ag0⟩
end
end Go.Proofs.YtcbkggfipdldaaaGreat
namespace Go.Proofs.YtcbkggfipdldaaaGreat
open Go Go.Abs
section
variable{α:Type}[Inhabited α]{f:α→AV}{K:α→α→Int}{G:α→Prop}{g:Nat}{caps:List AV}
def Bk:AV→Option AV
 |.ptr b n o=>some (.ptr b n o)
 |.iptr c o=>some (.iptr c o)
 |.func f c=>some (.func f c)
 |_=>none
theorem SV3:(∀ (T:Tm) (H:Hp) (x:Opd),bk T H (.nilck x)=Bk (ov T x))∧(∀ b n o:Nat,Bk (.ptr b n o)=some (.ptr b n o)):=⟨fun T H x=>by
 simp only[bk];cases ov T x<;>rfl,fun _ _ _=>rfl⟩
attribute [local irreducible] aG al bh a7 aV aU aB aX a9 bt Go.Abs.Fn aZ Go.Abs.Pure ax aO Yl
theorem BD(hc:Cmp Tryz.prog f K G g caps){L:List α}{H:Hp}{b nx n a e:Nat}(hH:H b=some (L.map f))(hn:L.length=n)(hae:a<e)(hen:e≤n)(hn2:n≤1000000000):
    Abs.Fn Tryz.prog 113 [.msl b n 1 0 n,.int .i64 a,.int .i64 e,.func g caps] H nx fun r H' nx'=>nx'=nx∧∃L',H'=am H b (L'.map f)∧PermR a e L L':=by
 obtain⟨m,rfl⟩:∃m,e=m+1:=⟨e-1,by omega⟩
 have te:((m+1:Nat):Int)-1=(m:Int):=by omega
 refine fO CI ?_;simp only[BB,ay];have zz:=@te;repeat' (first|refine zW ?_|apply a_n|refine zO ?_|refine vZ ?_|fail)
 refine bo (X:=Nat×Nat×List α) (fun x=>[(0,.msl b n 1 0 n),(8,.int .i64 (x.1:Nat)),(9,.int .i64 (x.2.1:Nat))]) (fun x H' nxx=>a≤x.1∧x.2.1≤m∧H'=am H b (x.2.2.map f)∧nx=nxx∧PermR a (m+1) L x.2.2) (fun x=>x.2.1) (a,m,L) ⟨aM _,aM _,eh hH,rfl,.refl⟩ ag0 ?_;rintro⟨i,j,M⟩ H' nxx ⟨h1,h2,rfl,rfl,hp⟩;dsimp only at *;have hl:M.length=n:=by rw[hp.len,hn]
 by_cases hij:i<j
 ·obtain⟨k,rfl⟩:∃k,j=k+1:=⟨j-1,by omega⟩
  have tj:((k+1:Nat):Int)-1=(k:Int):=by omega
  have ti:((i:Nat):Int)+1=((i+1:Nat):Int):=by omega
  obtain⟨M1,hl1,lm1,lm2⟩:=da (f:=f) (M:=M) (i:=i) (j:=k+1) (by omega) (by omega);have lm3:=lm2;simp only[bv,de,dF,bQ] at lm1 lm2;clear zz;have zz:=aI @tj (aI @ti (aI @lm1 (aI @lm2 (aI hc.cells hc.one))));repeat' (first|refine zW ?_|apply a_n|refine zO ?_|refine vZ ?_|refine stZ ?_|(refine zGZ ?_ ?_<;>(intro _hg;try (exfalso;omega)))|fail)
  exact⟨(i+1,k,swp M i (k+1)),by dsimp only;omega,⟨by dsimp only;omega,by dsimp only;omega,by dsimp only;rw[ao,ao,lm3],rfl,hp.trans (PermR.swap (by omega) (by omega) (by omega))⟩,ag0⟩
 ·repeat' (first|refine zW ?_|apply a_n|apply a_x|refine zO ?_|refine vZ ?_|(refine zGZ ?_ ?_<;>(intro _hg;try (exfalso;omega)))|refine ae rfl ?_|fail)
  exact⟨rfl,M,rfl,hp⟩
theorem n5(hc:Cmp Tryz.prog f K G g caps){L:List α}{H:Hp}{b c nx n i j s:Nat}(hH:H b=some (L.map f))(hcc:H c=some [.int .i64 (s:Nat)])(hn:L.length=n)(hG:∀x∈L,G x)(hi:i<n)(hj:j<n)(hn2:n≤1000000000)(hs:s≤100):
    Abs.Fn Tryz.prog 132 [.msl b n 1 0 n,.int .i64 i,.int .i64 j,.ptr c 1 0,.func g caps] H nx fun r H' nx'=>nx'=nx∧∃i' j' s':Nat,r=.tup [.int .i64 i',.int .i64 j']∧((i'=i∧j'=j)∨(i'=j∧j'=i))∧s'≤s+1∧H'=am H c [.int .i64 s']:=by
 refine fO Ck ?_;simp only[Cp,ay];have dcap:=hc.dcaps;have lc:=hc.run (L.getD j default) (L.getD i default) (hG _ (an (by omega))) (hG _ (an (by omega)));have e1:=hc.dat (L.getD j default);have e2:=hc.dat (L.getD i default);have ts:((s:Nat):Int)+1=((s+1:Nat):Int):=by omega
 have ls:∀x y:AV,bv [x] 0 [y]=[y]:=fun _ _=>rfl;simp only[bv,de,dF,bQ] at ls;generalize hKK:K (L.getD j default) (L.getD i default)=kk at lc;by_cases hlt:kk<0
 ·have zz:=aI @hH (aI @hcc (aI @bD (aI hc.cells (aI hc.one (aI @ts (aI @ls @SV3))))));repeat' (first|refine zW ?_|refine zM ?_|apply a_n|apply a_r|refine zO ?_|refine vZ ?_|refine cZ ?_ (hp:=lc) (hs:=by(first|refine ak ?_ rfl|apply au);(repeat' (first|exact ai|apply aD|apply aw|exact e1|exact e2|exact av dcap));first|done|fail)|refine stZ ?_|(refine zGZ ?_ ?_<;>(intro _hg;try (exfalso;omega)))|refine ae rfl ?_|refine r2Z ?_|fail)
  exact⟨rfl,j,i,s+1,rfl,.inr ⟨rfl,rfl⟩,aM _,rfl⟩
 ·have zz:=aI @hH (aI @hcc (aI @bD (aI hc.cells hc.one)));repeat' (first|refine zW ?_|refine zM ?_|apply a_n|refine zO ?_|refine vZ ?_|refine cZ ?_ (hp:=lc) (hs:=by(first|refine ak ?_ rfl|apply au);(repeat' (first|exact ai|apply aD|apply aw|exact e1|exact e2|exact av dcap));first|done|fail)|(refine zGZ ?_ ?_<;>(intro _hg;try (exfalso;omega)))|refine ae rfl ?_|refine r2Z ?_|fail)
  exact⟨rfl,i,j,s,rfl,.inl ⟨rfl,rfl⟩,Nat.le_succ _,eh hcc⟩
end
end Go.Proofs.YtcbkggfipdldaaaGreat
namespace Go.Proofs.YtcbkggfipdldaaaGreat
open Go Go.Abs
section
variable{α:Type}[Inhabited α]{f:α→AV}{K:α→α→Int}{G:α→Prop}{g:Nat}{caps:List AV}
attribute [local irreducible] aG al bh a7 aV aU aB aX a9 bt Go.Abs.Fn aZ Go.Abs.Pure ax aO Yl
theorem nQ(hc:Cmp Tryz.prog f K G g caps){L:List α}{H:Hp}{b c nx n i j k s lo hi:Nat}(hH:H b=some (L.map f))(hbc:b≠c)(hcc:H c=some [.int .i64 (s:Nat)])(hn:L.length=n)(hG:∀x∈L,G x)(hi1:lo≤i∧i<hi)(hj1:lo≤j∧j<hi)(hk1:lo≤k∧k<hi)(hhi:hi≤n)(hn2:n≤1000000000)(hs:s≤50):
    Abs.Fn Tryz.prog 129 [.msl b n 1 0 n,.int .i64 i,.int .i64 j,.int .i64 k,.ptr c 1 0,.func g caps] H nx fun r H' nx'=>nx'=nx∧∃p s':Nat,r=.int .i64 p∧lo≤p∧p<hi∧s'≤s+3∧H'=am H c [.int .i64 s']:=by
 refine fO Bh ?_;simp only[B6,ay]
 repeat' (first|refine zW ?_|apply a_n|refine zO ?_|refine vZ ?_|fail)
 refine aJ ev0 ev0 (n5 hc (b:=b) hH hcc hn hG (i:=i) (j:=j) (by omega) (by omega) hn2 (by omega)) ?_;rintro _ _ _ ⟨rfl,i1,j1,s1,rfl,h1,hs1,rfl⟩
 repeat' (first|refine zW ?_|apply a_n|refine zO ?_|refine vZ ?_|fail)
 refine aJ ev0 ev0 (n5 hc (b:=b) (by rw[af hbc];exact hH) aj hn hG (i:=j1) (j:=k) (by omega) (by omega) hn2 (by omega)) ?_;rintro _ _ _ ⟨rfl,j2,k2,s2,rfl,h2,hs2,rfl⟩
 repeat' (first|refine zW ?_|apply a_n|refine zO ?_|refine vZ ?_|fail)
 refine aJ ev0 ev0 (n5 hc (b:=b) (by rw[ao,af hbc];exact hH) aj hn hG (i:=i1) (j:=j2) (by omega) (by omega) hn2 (by omega)) ?_;rintro _ _ _ ⟨rfl,i3,j3,s3,rfl,h3,hs3,rfl⟩
 repeat' (first|refine zW ?_|apply a_n|refine zO ?_|refine vZ ?_|refine ae rfl ?_|refine r1Z ?_|fail)
 exact⟨rfl,j3,s3,rfl,by omega,by omega,by omega,by rw[ao,ao]⟩
theorem nH(hc:Cmp Tryz.prog f K G g caps){L:List α}{H:Hp}{b c nx n i s lo hi:Nat}(hH:H b=some (L.map f))(hbc:b≠c)(hcc:H c=some [.int .i64 (s:Nat)])(hn:L.length=n)(hG:∀x∈L,G x)(hi1:lo+1≤i∧i+1<hi)(hhi:hi≤n)(hn2:n≤1000000000)(hs:s≤50):
    Abs.Fn Tryz.prog 128 [.msl b n 1 0 n,.int .i64 i,.ptr c 1 0,.func g caps] H nx fun r H' nx'=>nx'=nx∧∃p s':Nat,r=.int .i64 p∧lo≤p∧p<hi∧s'≤s+3∧H'=am H c [.int .i64 s']:=by
 obtain⟨m,rfl⟩:∃m,i=m+1:=⟨i-1,by omega⟩
 have t1:((m+1:Nat):Int)-1=(m:Int):=by omega
 have t2:((m+1:Nat):Int)+1=((m+1+1:Nat):Int):=by omega
 refine fO BH ?_;simp only[CB,ay];have zz:=aI @t1 @t2;repeat' (first|refine zW ?_|apply a_n|refine zO ?_|refine vZ ?_|fail)
 refine aJ ev0 ev0 (nQ hc (b:=b) hH hbc hcc hn hG (i:=m) (j:=m+1) (k:=m+1+1) (lo:=lo) (hi:=hi) (by omega) (by omega) (by omega) hhi hn2 hs) ?_;rintro _ _ _ ⟨rfl,p,s1,rfl,h1,h2,hs1,rfl⟩
 repeat' (first|apply a_n|refine zO ?_|refine vZ ?_|refine ae rfl ?_|refine r1Z ?_|fail)
 exact⟨rfl,p,s1,rfl,h1,h2,hs1,rfl⟩
theorem xt(hc:Cmp Tryz.prog f K G g caps){L:List α}{H:Hp}{b nx n a e:Nat}(hH:H b=some (L.map f))(hbx:b<nx)(hn:L.length=n)(hG:∀x∈L,G x)(hae:a+8≤e)(hen:e≤n)(hn2:n≤1000000000):
    Abs.Fn Tryz.prog 112 [.msl b n 1 0 n,.int .i64 a,.int .i64 e,.func g caps] H nx fun r H' nx'=>nx'=nx+1∧∃(p:Nat)(hint:Int)(v:List AV),r=.tup [.int .i64 p,.int .i64 hint]∧a≤p∧p<e∧H'=am H nx v:=by
 obtain⟨l,rfl⟩:∃l,e=a+l:=⟨e-a,by omega⟩
 have te:((a+l:Nat):Int)-(a:Int)=(l:Int):=by omega
 obtain⟨q,hq⟩:∃q,l/4=q:=⟨_,rfl⟩
 have tq:bb .quo false false (.int .i64 (l:Int)) (.int .i64 4)=some (.int .i64 (q:Int)):=by
  rw[gd (by omega) (by omega) (by omega)]
  congr 2
  omega
 have w1:(a:Int)+(q:Int)*1=((a+q:Nat):Int):=by omega
 have w2:(a:Int)+(q:Int)*2=((a+q*2:Nat):Int):=by omega
 have w3:(a:Int)+(q:Int)*3=((a+q*3:Nat):Int):=by omega
 have hbn:b≠nx:=by omega
 refine fO BW ?_;simp only[BN,ay];have last:∀(s:Nat)(H1:Hp),H1=am (am H nx [.int .i64 0]) nx [.int .i64 s]→H1 nx=some [.int .i64 (s:Nat)]:=fun s H1 h=>by rw[h];exact aj
 have hHn:∀v,am H nx v b=some (L.map f):=fun v=>by rw[af hbn];exact hH
 by_cases h50:50≤l
 ·have zz:=aI @te (aI @tq (aI @w1 (aI @w2 @w3)));repeat' (first|refine zW ?_|apply a_n|refine zO ?_|refine vZ ?_|refine alZ ?_|(refine zGZ ?_ ?_<;>(intro _hg;try (exfalso;omega)))|fail)
  refine aJ ev0 ev0 (nH hc (b:=b) (c:=nx) (s:=0) (i:=a+q) (lo:=a) (hi:=a+l) (hHn _) hbn aj hn hG (by omega) (by omega) hn2 (by omega)) ?_;rintro _ _ _ ⟨rfl,p1,s1,rfl,k1,k2,hs1,rfl⟩;rw[ao]
  repeat' (first|refine zW ?_|apply a_n|refine zO ?_|refine vZ ?_|fail)
  refine aJ ev0 ev0 (nH hc (b:=b) (c:=nx) (s:=s1) (i:=a+q*2) (lo:=a) (hi:=a+l) (hHn _) hbn aj hn hG (by omega) (by omega) hn2 (by omega)) ?_;rintro _ _ _ ⟨rfl,p2,s2,rfl,k3,k4,hs2,rfl⟩;rw[ao]
  repeat' (first|apply a_n|refine zO ?_|refine vZ ?_|fail)
  refine aJ ev0 ev0 (nH hc (b:=b) (c:=nx) (s:=s2) (i:=a+q*3) (lo:=a) (hi:=a+l) (hHn _) hbn aj hn hG (by omega) (by omega) hn2 (by omega)) ?_;rintro _ _ _ ⟨rfl,p3,s3,rfl,k5,k6,hs3,rfl⟩;rw[ao]
  repeat' (first|apply a_n|refine zO ?_|refine vZ ?_|fail)
  refine aJ ev0 ev0 (nQ hc (b:=b) (c:=nx) (s:=s3) (i:=p1) (j:=p2) (k:=p3) (lo:=a) (hi:=a+l) (hHn _) hbn aj hn hG (by omega) (by omega) (by omega) (by omega) hn2 (by omega)) ?_;rintro _ _ _ ⟨rfl,p4,s4,rfl,k7,k8,hs4,rfl⟩;rw[ao]
  repeat' (first|refine zW ?_|apply a_n|refine zO ?_|refine vZ ?_|(refine zGZ ?_ ?_<;>(intro _hg;try (exfalso;omega)))|refine ae rfl ?_|refine r2Z ?_|fail)
  all_goals exact⟨rfl,p4,_,_,rfl,by omega,by omega,rfl⟩
 ·have zz:=aI @te (aI @tq (aI @w1 (aI @w2 @w3)));repeat' (first|refine zW ?_|apply a_n|refine zO ?_|refine vZ ?_|refine alZ ?_|(refine zGZ ?_ ?_<;>(intro _hg;try (exfalso;omega)))|fail)
  refine aJ ev0 ev0 (nQ hc (b:=b) (c:=nx) (s:=0) (i:=a+q) (j:=a+q*2) (k:=a+q*3) (lo:=a) (hi:=a+l) (hHn _) hbn aj hn hG (by omega) (by omega) (by omega) (by omega) hn2 (by omega)) ?_;rintro _ _ _ ⟨rfl,p4,s4,rfl,k7,k8,hs4,rfl⟩;rw[ao]
  repeat' (first|refine zW ?_|apply a_n|refine zO ?_|refine vZ ?_|(refine zGZ ?_ ?_<;>(intro _hg;try (exfalso;omega)))|refine ae rfl ?_|refine r2Z ?_|fail)
  all_goals exact⟨rfl,p4,_,_,rfl,by omega,by omega,rfl⟩
end
end Go.Proofs.YtcbkggfipdldaaaGreat
namespace Go.Proofs.YtcbkggfipdldaaaGreat
open Go Go.Abs
def mD{α:Type}[Inhabited α](K:α→α→Int)(a e:Nat)(M:List α):Prop:=∀q,0<a→a≤q→q<e→¬K (M.getD q default) (M.getD (a-1) default)<0
section
variable{α:Type}[Inhabited α]{f:α→AV}{K:α→α→Int}{G:α→Prop}{g:Nat}{caps:List AV}
theorem mD.perm{a e:Nat}{L M:List α}(h:mD K a e L)(hp:PermR a e L M)(hae:a≤e)(he:e≤L.length):mD K a e M:=fun q h0 h1 h2=>by
 rw[hp.out (a-1) (.inl (by omega))];exact hp.all (p:=fun x=>¬K x (L.getD (a-1) default)<0) hae he (fun i k1 k2=>h i h0 k1 k2) q h1 h2
theorem aW.out{a i e:Nat}{L M:List α}(h:aW K a i L)(hp:PermR i e L M):aW K a i M:=fun p q h1 h2 h3=>by
 rw[hp.out p (.inl (by omega)),hp.out q (.inl h3)];exact h p q h1 h2 h3
theorem aW.snoc{a i:Nat}{M:List α}(hK:Ord K)(h:aW K a i M)(ha:a<i)(hn:¬K (M.getD i default) (M.getD (i-1) default)<0):aW K a (i+1) M:=fun p q h1 h2 h3=>by
 by_cases e:q=i
 ·subst e;by_cases e2:p=q-1
  ·rw[e2];exact hn
  ·exact hK.negtr _ _ _ (h p (q-1) h1 (by omega) (by omega)) hn
 ·exact h p q h1 h2 (by omega)
attribute [local irreducible] aG al bh a7 aV aU aB aX a9 bt Go.Abs.Fn aZ Go.Abs.Pure ax aO Yl
theorem wQ(hc:Cmp Tryz.prog f K G g caps){L:List α}{H:Hp}{b nx n a e:Nat}(hH:H b=some (L.map f))(hn:L.length=n)(hG:∀x∈L,G x)(hae:a<e)(hen:e≤n)(hn2:n≤1000000000)(hlow:mD K a e L):
    Abs.Fn Tryz.prog 114 [.msl b n 1 0 n,.int .i64 a,.int .i64 e,.func g caps] H nx fun r H' nx'=>nx'=nx∧∃L' t,r=.bool t∧H'=am H b (L'.map f)∧PermR a e L L'∧(t=true→aW K a e L'):=by
 have dcap:=hc.dcaps;refine fO Cu ?_;simp only[Cc,ay]
 repeat' (first|refine zW ?_|apply a_n|refine zO ?_|refine vZ ?_|fail)
 refine bo (X:=Nat×Nat×List α) (fun x=>[(0,.msl b n 1 0 n),(1,.int .i64 a),(2,.int .i64 e),(3,.func g caps),(9,.int .i64 (x.2.1:Nat)),(10,.int .i64 (x.1:Nat))]) (fun x H' nxx=>x.1≤5∧a+1≤x.2.1∧x.2.1≤e∧H'=am H b (x.2.2.map f)∧nx=nxx∧PermR a e L x.2.2∧aW K a x.2.1 x.2.2) (fun x=>5-x.1) (0,a+1,L) ⟨by dsimp only;omega,aM _,hae,eh hH,rfl,.refl,aW.one (aM _)⟩ ag0 ?_;rintro⟨jj,i0,M0⟩ H' nxx ⟨h1,h2,h3,rfl,rfl,hp0,hs0⟩;dsimp only at *;by_cases h5:jj=5
 ·subst h5
  repeat' (first|refine zW ?_|apply a_n|apply a_x|refine zO ?_|refine vZ ?_|(refine zGZ ?_ ?_<;>(intro _hg;try (exfalso;omega)))|refine ae rfl ?_|refine r1Z ?_|fail)
  exact⟨rfl,M0,false,rfl,rfl,hp0,fun h=>absurd h (by decide)⟩
 have hl:M0.length=n:=by rw[hp0.len,hn]
 have hGM:=hp0.mem hG;refine aQ (fun T H'' nx''=>T 0=.msl b n 1 0 n∧T 1=.int .i64 a∧T 2=.int .i64 e∧T 3=.func g caps∧T 9=.int .i64 (i0:Nat)∧T 10=.int .i64 (jj:Nat)∧H''=am H b ((M0).map f)∧nx=nx'') ?_ ?_
 ·repeat' (first|refine zW ?_|apply a_n|refine zO ?_|refine vZ ?_|(refine zGZ ?_ ?_<;>(intro _hg;try (exfalso;omega)))|fail)
  exact⟨rfl,rfl,rfl,rfl,rfl,rfl,rfl,rfl⟩
 rintro T _ _ ⟨t0,t1,t2,t3,t9,t10,rfl,rfl⟩;refine aQ (fun T H'' nx''=>∃(i:Nat)(M:List α),a+1≤i∧i≤e∧PermR a e L M∧aW K a i M∧T 0=.msl b n 1 0 n∧T 1=.int .i64 a∧T 2=.int .i64 e∧T 3=.func g caps∧T 9=.int .i64 (i:Nat)∧T 10=.int .i64 (jj:Nat)∧H''=am H b ((M).map f)∧nx=nx'') ?_ ?_
 rotate_left
 ·clear t0 t1 t2 t3 t9 t10;rintro T _ _ ⟨i,M,k1,k2,hp,hs,t0,t1,t2,t3,t9,t10,rfl,rfl⟩;have zz:=aI @t0 (aI @t1 (aI @t2 (aI @t3 (aI @t9 @t10))));repeat' (first|apply a_n|refine zO ?_|refine vZ ?_|fail)
  exact⟨(jj+1,i,M),by dsimp only;omega,⟨by dsimp only;omega,k1,k2,rfl,rfl,hp,hs⟩,(have zz:=aI @t0 (aI @t1 (aI @t2 (aI @t3 (aI @t9 @t10))));agZ)⟩
 refine dg ?_;refine aQ (fun T H'' nx''=>∃(i:Nat),a+1≤i∧i≤e∧aW K a i M0∧(i<e→K (M0.getD i default) (M0.getD (i-1) default)<0)∧T 0=.msl b n 1 0 n∧T 1=.int .i64 a∧T 2=.int .i64 e∧T 3=.func g caps∧T 9=.int .i64 (i:Nat)∧T 10=.int .i64 (jj:Nat)∧H''=am H b ((M0).map f)∧nx=nx'') ?_ ?_
 ·have zz:=aI @t0 (aI @t1 (aI @t2 (aI @t3 (aI @t9 @t10))));repeat' (first|refine zW ?_|apply a_n|refine zO ?_|fail)
  refine bo (X:=Nat) (fun i=>[(0,.msl b n 1 0 n),(1,.int .i64 a),(2,.int .i64 e),(3,.func g caps),(9,.int .i64 (i:Nat)),(10,.int .i64 (jj:Nat))]) (fun i H' nxx=>a+1≤i∧i≤e∧H'=am H b (M0.map f)∧nx=nxx∧aW K a i M0) (fun i=>e-i) i0 ⟨h2,h3,rfl,rfl,hs0⟩ (have zz:=aI @t0 (aI @t1 (aI @t2 (aI @t3 (aI @t9 @t10))));agZ) ?_;clear zz;clear hs0 h2 h3;rintro i H' nxx ⟨h2,h3,rfl,rfl,hs⟩;by_cases hie:i=e
  ·subst hie
   repeat' (first|refine zW ?_|refine zM ?_|apply a_n|apply a_x|refine zO ?_|refine vZ ?_|refine gFZ ?_|(refine zGZ ?_ ?_<;>(intro _hg;try (exfalso;omega)))|refine cFZ ?_|fail)
   exact⟨i,h2,h3,hs,fun h=>absurd h (Nat.lt_irrefl _),rfl,rfl,rfl,rfl,rfl,rfl,rfl,rfl⟩
  obtain⟨m,rfl⟩:∃m,i=m+1:=⟨i-1,by omega⟩
  have tj:((m+1:Nat):Int)-1=(m:Int):=by omega
  have lc:=hc.run (M0.getD (m+1) default) (M0.getD m default) (hGM _ (an (by omega))) (hGM _ (an (by omega)));have e1:=hc.dat (M0.getD (m+1) default);have e2:=hc.dat (M0.getD m default);generalize hKK:K (M0.getD (m+1) default) (M0.getD m default)=kk at lc;by_cases hlt:kk<0
  ·have zz:=aI @tj (aI @bD (aI hc.cells hc.one));repeat' (first|refine zW ?_|refine zM ?_|apply a_n|apply a_x|refine zO ?_|refine vZ ?_|refine cZ ?_ (hp:=lc) (hs:=by(first|refine ak ?_ rfl|apply au);(repeat' (first|exact ai|apply aD|apply aw|exact e1|exact e2|exact av dcap));first|done|fail)|refine gTZ ?_|(refine zGZ ?_ ?_<;>(intro _hg;try (exfalso;omega)))|fail)
   exact⟨m+1,h2,h3,hs,fun _=>by rw[jE,hKK];exact hlt,rfl,rfl,rfl,rfl,rfl,rfl,rfl,rfl⟩
  ·have zz:=aI @tj (aI @bD (aI hc.cells hc.one));repeat' (first|refine zW ?_|refine zM ?_|apply a_n|refine zO ?_|refine vZ ?_|refine cZ ?_ (hp:=lc) (hs:=by(first|refine ak ?_ rfl|apply au);(repeat' (first|exact ai|apply aD|apply aw|exact e1|exact e2|exact av dcap));first|done|fail)|refine gTZ ?_|(refine zGZ ?_ ?_<;>(intro _hg;try (exfalso;omega)))|fail)
   exact⟨m+1+1,by omega,⟨by omega,by omega,rfl,rfl,hs.snoc hc.ord (by omega) (by rw[jE,hKK];exact hlt)⟩,ag0⟩
 clear t0 t1 t2 t3 t9 t10 hs0 h2 h3;rintro T _ _ ⟨i,h2,h3,hs,hless,t0,t1,t2,t3,t9,t10,rfl,rfl⟩;by_cases hie:i=e
 ·subst hie;have ten:decide ((i:Int)=(i:Int))=true:=cA rfl;have zz:=aI @t0 (aI @t1 (aI @t2 (aI @t3 (aI @t9 (aI @t10 @ten)))));repeat' (first|refine zW ?_|apply a_n|apply a_r|refine zO ?_|refine vZ ?_|(refine zGZ ?_ ?_<;>(intro _hg;try (exfalso;omega)))|refine ae rfl ?_|refine r1Z ?_|fail)
  exact⟨rfl,M0,true,rfl,rfl,hp0,fun _=>hs⟩
 replace hless:=hless (by omega);have ten:decide ((i:Int)=(e:Int))=false:=dN (by omega);refine aQ (fun T H'' nx''=>T 0=.msl b n 1 0 n∧T 1=.int .i64 a∧T 2=.int .i64 e∧T 3=.func g caps∧T 9=.int .i64 (i:Nat)∧T 10=.int .i64 (jj:Nat)∧H''=am H b ((M0).map f)∧nx=nx'') ?_ ?_
 ·have zz:=aI @t0 (aI @t1 (aI @t2 (aI @t3 (aI @t9 (aI @t10 @ten)))));repeat' (first|refine zW ?_|apply a_n|refine zO ?_|refine vZ ?_|refine cFZ ?_|fail)
  exact⟨(have zz:=@t0;evZ),(have zz:=@t1;evZ),(have zz:=@t2;evZ),(have zz:=@t3;evZ),(have zz:=@t9;evZ),(have zz:=@t10;evZ),rfl,rfl⟩
 clear t0 t1 t2 t3 t9 t10 ten;rintro T _ _ ⟨t0,t1,t2,t3,t9,t10,rfl,rfl⟩;refine aQ (fun T H'' nx''=>T 0=.msl b n 1 0 n∧T 1=.int .i64 a∧T 2=.int .i64 e∧T 3=.func g caps∧T 9=.int .i64 (i:Nat)∧T 10=.int .i64 (jj:Nat)∧H''=am H b ((M0).map f)∧nx=nx'') ?_ ?_
 ·have zz:=aI @t0 (aI @t1 (aI @t2 (aI @t3 (aI @t9 @t10))));repeat' (first|refine zW ?_|apply a_n|apply a_r|refine zO ?_|refine vZ ?_|(refine zGZ ?_ ?_<;>(intro _hg;try (exfalso;omega)))|refine ae rfl ?_|refine r1Z ?_|fail)
  ·exact⟨rfl,M0,false,rfl,rfl,hp0,fun h=>absurd h (by decide)⟩
  ·exact⟨(have zz:=@t0;evZ),(have zz:=@t1;evZ),(have zz:=@t2;evZ),(have zz:=@t3;evZ),(have zz:=@t9;evZ),(have zz:=@t10;evZ),rfl,rfl⟩
 clear t0 t1 t2 t3 t9 t10;rintro T _ _ ⟨t0,t1,t2,t3,t9,t10,rfl,rfl⟩;obtain⟨m,rfl⟩:∃m,i=m+1:=⟨i-1,by omega⟩
 have tj:((m+1:Nat):Int)-1=(m:Int):=by omega
 rw[jE] at hless;obtain⟨M1,hl1,lm1,lm2⟩:=da (f:=f) (M:=M0) (i:=m+1) (j:=m) (by omega) (by omega);have lm3:=lm2;simp only[bv,de,dF,bQ] at lm1 lm2;refine aQ (fun T H'' nx''=>T 0=.msl b n 1 0 n∧T 1=.int .i64 a∧T 2=.int .i64 e∧T 3=.func g caps∧T 9=.int .i64 (m+1:Nat)∧T 10=.int .i64 (jj:Nat)∧H''=am H b ((swp M0 (m+1) m).map f)∧nx=nx'') ?_ ?_
 ·have zz:=aI @t0 (aI @t1 (aI @t2 (aI @t3 (aI @t9 (aI @t10 (aI @bD (aI hc.cells (aI hc.one (aI @tj (aI @lm1 @lm2))))))))));repeat' (first|apply a_n|refine zO ?_|refine vZ ?_|refine stZ ?_|fail)
  exact⟨(have zz:=@t0;evZ),(have zz:=@t1;evZ),(have zz:=@t2;evZ),(have zz:=@t3;evZ),(have zz:=@t9;evZ),(have zz:=@t10;evZ),by rw[ao,ao,lm3],rfl⟩
 clear t0 t1 t2 t3 t9 t10;have hp1:PermR a e L (swp M0 (m+1) m):=hp0.trans (PermR.swap (by omega) (by omega) (by omega));have hal:=(dY.start hs).step hc.ord (by omega) (aM _) (by omega) hless;clear hs hless lm1 lm2 lm3 hl1 M1;generalize swp M0 (m+1) m=M2 at hp1 hal;clear hp0 hGM hl;rintro T _ _ ⟨t0,t1,t2,t3,t9,t10,rfl,rfl⟩;refine aQ (fun T H'' nx''=>∃M:List α,PermR a e L M∧aW K a (m+1) M∧T 0=.msl b n 1 0 n∧T 1=.int .i64 a∧T 2=.int .i64 e∧T 3=.func g caps∧T 9=.int .i64 (m+1:Nat)∧T 10=.int .i64 (jj:Nat)∧H''=am H b ((M).map f)∧nx=nx'') ?_ ?_
 ·by_cases h2a:m=a
  ·subst h2a;have td:decide ((2:Int)≤((m+1:Nat):Int)-(m:Int))=false:=dN (by omega);have zz:=aI @t0 (aI @t1 (aI @t2 (aI @t3 (aI @t9 (aI @t10 @td)))));repeat' (first|refine zW ?_|apply a_n|refine zO ?_|refine vZ ?_|refine cFZ ?_|fail)
   exact⟨M2,hp1,(hal.done hc.ord (.inl rfl)).mono (aM _) (by omega),(have zz:=@t0;evZ),(have zz:=@t1;evZ),(have zz:=@t2;evZ),(have zz:=@t3;evZ),(have zz:=@t9;evZ),(have zz:=@t10;evZ),rfl,rfl⟩
  have td:decide ((2:Int)≤((m+1:Nat):Int)-(a:Int))=true:=cA (by omega);have zz:=aI @t0 (aI @t1 (aI @t2 (aI @t3 (aI @t9 (aI @t10 (aI @td @tj))))));repeat' (first|refine zW ?_|apply a_n|refine zO ?_|refine vZ ?_|refine cTZ ?_|fail)
  refine bo (X:=Nat×List α) (fun x=>[(0,.msl b n 1 0 n),(1,.int .i64 a),(2,.int .i64 e),(3,.func g caps),(9,.int .i64 (m+1:Nat)),(10,.int .i64 (jj:Nat)),(11,.int .i64 (x.1:Nat))]) (fun x H' nxx=>a≤x.1∧x.1≤m∧H'=am H b (x.2.map f)∧nx=nxx∧PermR a e L x.2∧dY K a (m+1) x.1 x.2) (fun x=>x.1) (m,M2) ⟨by dsimp only;omega,aM _,rfl,rfl,hp1,hal⟩ (have zz:=aI @t0 (aI @t1 (aI @t2 (aI @t3 (aI @t9 @t10))));agZ) ?_;clear zz;clear t0 t1 t2 t3 t9 t10 hp1 hal M2;rintro⟨j,M⟩ H' nxx ⟨a1,a2,rfl,rfl,hp,hal⟩;dsimp only at *;have hl:M.length=n:=by rw[hp.len,hn]
  have hGM:=hp.mem hG;rcases mS j with ej|ej
  ·subst ej
   repeat' (first|refine zW ?_|apply a_n|apply a_x|refine zO ?_|refine vZ ?_|(refine zGZ ?_ ?_<;>(intro _hg;try (exfalso;omega)))|fail)
   exact⟨M,hp,(hal.done hc.ord (.inl (by omega))).mono (aM _) (by omega),rfl,rfl,rfl,rfl,rfl,rfl,rfl,rfl⟩
  obtain⟨k,rfl⟩:∃k,j=k+1:=⟨j-1,by omega⟩
  have tk:((k+1:Nat):Int)-1=(k:Int):=by omega
  have lc:=hc.run (M.getD (k+1) default) (M.getD k default) (hGM _ (an (by omega))) (hGM _ (an (by omega)));have e1:=hc.dat (M.getD (k+1) default);have e2:=hc.dat (M.getD k default);have hlw:=hlow.perm hp (by omega) (by omega);generalize hKK:K (M.getD (k+1) default) (M.getD k default)=kk at lc;by_cases hlt:kk<0
  ·have hak:k+1≠a:=fun h=>by
     subst h;have:=hlw (k+1) (by omega) (aM _) (by omega);rw[jE,hKK] at this;exact this hlt
   obtain⟨M1,hl1,lm1,lm2⟩:=da (f:=f) (M:=M) (i:=k+1) (j:=k) (by omega) (by omega);have lm3:=lm2;simp only[bv,de,dF,bQ] at lm1 lm2;have zz:=aI @tk (aI @bD (aI hc.cells (aI hc.one (aI @lm1 @lm2))));repeat' (first|refine zW ?_|refine zM ?_|apply a_n|refine zO ?_|refine vZ ?_|refine cZ ?_ (hp:=lc) (hs:=by(first|refine ak ?_ rfl|apply au);(repeat' (first|exact ai|apply aD|apply aw|exact e1|exact e2|exact av dcap));first|done|fail)|refine stZ ?_|(refine zGZ ?_ ?_<;>(intro _hg;try (exfalso;omega)))|fail)
   exact⟨(k,swp M (k+1) k),by dsimp only;omega,⟨by dsimp only;omega,by dsimp only;omega,by dsimp only;rw[ao,ao,lm3],rfl,hp.trans (PermR.swap (by omega) (by omega) (by omega)),hal.step hc.ord (by omega) (by omega) (by omega) (by rw[hKK];exact hlt)⟩,(have zz:=@tk;agZ)⟩
  ·have hd:k+1=a∨(a<k+1∧¬K (M.getD (k+1) default) (M.getD (k+1-1) default)<0):=by
     by_cases h:k+1=a
     ·exact .inl h
     ·exact .inr ⟨by omega,by rw[jE,hKK];exact hlt⟩
   have zz:=aI @tk (aI @bD (aI hc.cells hc.one));repeat' (first|refine zW ?_|refine zM ?_|apply a_n|apply a_x|refine zO ?_|refine vZ ?_|refine cZ ?_ (hp:=lc) (hs:=by(first|refine ak ?_ rfl|apply au);(repeat' (first|exact ai|apply aD|apply aw|exact e1|exact e2|exact av dcap));first|done|fail)|(refine zGZ ?_ ?_<;>(intro _hg;try (exfalso;omega)))|fail)
   exact⟨M,hp,(hal.done hc.ord hd).mono (aM _) (by omega),rfl,rfl,rfl,rfl,rfl,rfl,rfl,rfl⟩
 clear t0 t1 t2 t3 t9 t10 hp1 hal M2;rintro T _ _ ⟨M2,hp1,hs,t0,t1,t2,t3,t9,t10,rfl,rfl⟩;by_cases h2a:m+1+2≤e
 rotate_left
 ·have td:decide ((2:Int)≤(e:Int)-((m+1:Nat):Int))=false:=dN (by omega);have zz:=aI @t0 (aI @t1 (aI @t2 (aI @t3 (aI @t9 (aI @t10 @td)))));repeat' (first|refine zW ?_|apply a_n|refine zO ?_|refine vZ ?_|refine cFZ ?_|fail)
  exact⟨m+1,M2,h2,h3,hp1,hs,(have zz:=@t0;evZ),(have zz:=@t1;evZ),(have zz:=@t2;evZ),(have zz:=@t3;evZ),(have zz:=@t9;evZ),(have zz:=@t10;evZ),rfl,rfl⟩
 have td:decide ((2:Int)≤(e:Int)-((m+1:Nat):Int))=true:=cA (by omega);have tj2:((m+1:Nat):Int)+1=((m+1+1:Nat):Int):=by omega
 have zz:=aI @t0 (aI @t1 (aI @t2 (aI @t3 (aI @t9 (aI @t10 (aI @td @tj2))))));repeat' (first|refine zW ?_|apply a_n|refine zO ?_|refine vZ ?_|refine cTZ ?_|fail)
 refine bo (X:=Nat×List α) (fun x=>[(0,.msl b n 1 0 n),(1,.int .i64 a),(2,.int .i64 e),(3,.func g caps),(9,.int .i64 (m+1:Nat)),(10,.int .i64 (jj:Nat)),(12,.int .i64 (x.1:Nat))]) (fun x H' nxx=>m+1+1≤x.1∧x.1≤e∧H'=am H b (x.2.map f)∧nx=nxx∧PermR a e L x.2∧aW K a (m+1) x.2) (fun x=>e-x.1) (m+1+1,M2) ⟨aM _,by dsimp only;omega,rfl,rfl,hp1,hs⟩ (have zz:=aI @t0 (aI @t1 (aI @t2 (aI @t3 (aI @t9 @t10))));agZ) ?_;clear zz;clear t0 t1 t2 t3 t9 t10 hp1 hs M2;rintro⟨j,M⟩ H' nxx ⟨a1,a2,rfl,rfl,hp,hs⟩;dsimp only at *;have hl:M.length=n:=by rw[hp.len,hn]
 have hGM:=hp.mem hG;by_cases hje:j=e
 ·subst hje
  repeat' (first|refine zW ?_|apply a_n|apply a_x|refine zO ?_|refine vZ ?_|(refine zGZ ?_ ?_<;>(intro _hg;try (exfalso;omega)))|fail)
  exact⟨m+1,M,h2,h3,hp,hs,rfl,rfl,rfl,rfl,rfl,rfl,rfl,rfl⟩
 obtain⟨k,rfl⟩:∃k,j=k+1:=⟨j-1,by omega⟩
 have tk:((k+1:Nat):Int)-1=(k:Int):=by omega
 have lc:=hc.run (M.getD (k+1) default) (M.getD k default) (hGM _ (an (by omega))) (hGM _ (an (by omega)));have e1:=hc.dat (M.getD (k+1) default);have e2:=hc.dat (M.getD k default);generalize hKK:K (M.getD (k+1) default) (M.getD k default)=kk at lc;by_cases hlt:kk<0
 ·obtain⟨M1,hl1,lm1,lm2⟩:=da (f:=f) (M:=M) (i:=k+1) (j:=k) (by omega) (by omega);have lm3:=lm2;simp only[bv,de,dF,bQ] at lm1 lm2;have zz:=aI @tk (aI @bD (aI hc.cells (aI hc.one (aI @lm1 @lm2))));repeat' (first|refine zW ?_|refine zM ?_|apply a_n|refine zO ?_|refine vZ ?_|refine cZ ?_ (hp:=lc) (hs:=by(first|refine ak ?_ rfl|apply au);(repeat' (first|exact ai|apply aD|apply aw|exact e1|exact e2|exact av dcap));first|done|fail)|refine stZ ?_|(refine zGZ ?_ ?_<;>(intro _hg;try (exfalso;omega)))|fail)
  exact⟨(k+1+1,swp M (k+1) k),by dsimp only;omega,⟨by dsimp only;omega,by dsimp only;omega,by dsimp only;rw[ao,ao,lm3],rfl,hp.trans (PermR.swap (by omega) (by omega) (by omega)),hs.out (e:=e) (PermR.swap (by omega) (by omega) (by omega))⟩,ag0⟩
 ·have zz:=aI @tk (aI @bD (aI hc.cells hc.one));repeat' (first|refine zW ?_|refine zM ?_|apply a_n|apply a_x|refine zO ?_|refine vZ ?_|refine cZ ?_ (hp:=lc) (hs:=by(first|refine ak ?_ rfl|apply au);(repeat' (first|exact ai|apply aD|apply aw|exact e1|exact e2|exact av dcap));first|done|fail)|(refine zGZ ?_ ?_<;>(intro _hg;try (exfalso;omega)))|fail)
  exact⟨m+1,M,h2,h3,hp,hs,rfl,rfl,rfl,rfl,rfl,rfl,rfl,rfl⟩
end
end Go.Proofs.YtcbkggfipdldaaaGreat
namespace Go.Proofs.YtcbkggfipdldaaaGreat
open Go Go.Abs
structure PartR{α:Type}[Inhabited α](P:α→Prop)(a e mu i j:Nat)(M:List α):Prop where
 lo:a+1≤i
 mid:i≤j+1
 hi:j<e
 mu:j+1-i≤mu
 up:∀p,a+1≤p→p<i→P (M.getD p default)
 dn:∀q,j<q→q<e→¬P (M.getD q default)
section
variable{α:Type}[Inhabited α]{f:α→AV}{K:α→α→Int}{G:α→Prop}{g:Nat}{caps:List AV}
theorem PartR.start{P:α→Prop}{a m:Nat}{M:List α}(h:a≤m):PartR P a (m+1) (m+1-(a+1)) (a+1) m M:=⟨aM _,by omega,by omega,aM _,fun p h1 h2=>by omega,fun q h1 h2=>by omega⟩
theorem PartR.stepUp{P:α→Prop}{a e mu i j:Nat}{M:List α}(h:PartR P a e mu i j M)(hij:i≤j)(hp:P (M.getD i default)):PartR P a e mu (i+1) j M:=
 ⟨by have:=h.lo; omega,by omega,h.hi,by have:=h.mu; omega,fun p h1 h2=>by
  by_cases e:p=i
  ·rw[e];exact hp
  ·exact h.up p h1 (by omega),h.dn⟩
theorem PartR.stepDn{P:α→Prop}{a e mu i k:Nat}{M:List α}(h:PartR P a e mu i (k+1) M)(hij:i≤k+1)(hp:¬P (M.getD (k+1) default)):PartR P a e mu i k M:=
 ⟨h.lo,hij,by have:=h.hi; omega,by have:=h.mu; omega,h.up,fun q h1 h2=>by
  by_cases e:q=k+1
  ·rw[e];exact hp
  ·exact h.dn q (by omega) h2⟩
theorem PartR.swap{P:α→Prop}{a e mu i k:Nat}{M:List α}(h:PartR P a e mu i (k+1) M)(hM:e≤M.length)(hij:i≤k+1)(hi:¬P (M.getD i default))(hj:P (M.getD (k+1) default)):PartR P a e (k+1-(i+1)) (i+1) k (swp M i (k+1))∧k+1-(i+1)<mu:=by
 have hne:i≠k+1:=fun e=>hi (by rw[e];exact hj);have hh:=h.hi;have hlo:=h.lo;have hmu:=h.mu;refine⟨⟨by omega,by omega,by omega,aM _,fun p h1 h2=>?_,fun q h1 h2=>?_⟩,by omega⟩
 ·rw[dq (by omega) (by omega),if_neg (by omega)];by_cases e:p=i
  ·rw[if_pos e];exact hj
  ·rw[if_neg e];exact h.up p h1 (by omega)
 ·rw[dq (by omega) (by omega)];by_cases e:q=k+1
  ·rw[if_pos e];exact hi
  ·rw[if_neg e,if_neg (by omega)];exact h.dn q (by omega) h2
theorem gI{M:List α}{i j k:Nat}(hi:i<M.length)(hj:j<M.length)(h1:k≠i)(h2:k≠j):(swp M i j).getD k default=M.getD k default:=by
 rw[dq hi hj,if_neg h2,if_neg h1]
attribute [local irreducible] aG al bh a7 aV aU aB aX a9 bt Go.Abs.Fn aZ Go.Abs.Pure ax aO Yl
theorem PartR.done{P:α→Prop}{a e mu i j:Nat}{M:List α}{v:α}(hK:Ord K)(h:PartR P a e mu i j M)(hM:e≤M.length)(hji:j<i)(hv:M.getD a default=v)(hP:∀x,P x↔K x v<0):a≤j∧j<e∧(∀p,a≤p→p<j→K ((swp M j a).getD p default) ((swp M j a).getD j default)<0)∧(∀q,j<q→q<e→¬K ((swp M j a).getD q default) ((swp M j a).getD j default)<0):=by
 have hlo:=h.lo;have hmid:=h.mid;have hhi:=h.hi
 have ej:(swp M j a).getD j default=v:=by
  rw[dq (by omega) (by omega)];split
  ·rename_i e;rw[e,hv]
  ·rw[if_pos rfl,hv]
 rw[ej];refine⟨by omega,by omega,fun p h1 h2=>?_,fun q h1 h2=>?_⟩
 ·rw[dq (by omega) (by omega)];by_cases e:p=a
  ·rw[if_pos e];exact(hP _).1 (h.up j (by omega) hji)
  ·rw[if_neg e,if_neg (by omega)];exact(hP _).1 (h.up p (by omega) (by omega))
 ·rw[dq (by omega) (by omega),if_neg (by omega),if_neg (by omega),←hP];exact h.dn q h1 h2
theorem yp(hc:Cmp Tryz.prog f K G g caps){L:List α}{H:Hp}{b nx n a e pv:Nat}(hH:H b=some (L.map f))(hn:L.length=n)(hG:∀x∈L,G x)(hae:a<e)(hen:e≤n)(hn2:n≤1000000000)(hpv:a≤pv∧pv<e):
    Abs.Fn Tryz.prog 115 [.msl b n 1 0 n,.int .i64 a,.int .i64 e,.int .i64 pv,.func g caps] H nx fun r H' nx'=>nx'=nx∧∃(L':List α)(m:Nat),r=.int .i64 m∧a<m∧m≤e∧H'=am H b (L'.map f)∧PermR a e L L'∧(∀p,a≤p→p<m→¬K (L.getD pv default) (L'.getD p default)<0)∧(∀q,m≤q→q<e→K (L.getD pv default) (L'.getD q default)<0):=by
 have dcap:=hc.dcaps;obtain⟨v,hv0⟩:∃v,L.getD pv default=v:=⟨_,rfl⟩
 rw[hv0];obtain⟨P,hP⟩:∃P:α→Prop,∀x,P x↔ ¬K v x<0:=⟨_,fun _=>Iff.rfl⟩
 obtain⟨N,hN⟩:∃N,swp L a pv=N:=⟨_,rfl⟩
 have hp1:PermR a e L N:=hN▸PermR.swap (by omega) (by omega) (by omega)
 have hv1:N.getD a default=v:=by
  rw[←hN,dq (by omega) (by omega),←hv0];split
  ·rename_i h;rw[h]
  ·rw[if_pos rfl]
 obtain⟨M1,hl1,lm1,lm2⟩:=da (f:=f) (M:=L) (i:=a) (j:=pv) (by omega) (by omega);rw[hN] at lm2;have lm3:=lm2;simp only[bv,de,dF,bQ] at lm1 lm2;obtain⟨m,hm⟩:∃m,e=m+1:=⟨e-1,by omega⟩
 have te:(e:Int)-1=(m:Int):=by omega
 have ta:((a:Nat):Int)+1=((a+1:Nat):Int):=by omega
 refine fO BU ?_;simp only[B4,ay];have zz:=aI @hH (aI @te (aI @ta (aI @bD (aI hc.cells (aI hc.one (aI @lm1 @lm2))))));repeat' (first|refine zW ?_|apply a_n|refine zO ?_|refine vZ ?_|refine stZ ?_|fail)
 refine bo (X:=Nat×Nat×List α) (fun x=>[(0,.msl b n 1 0 n),(1,.int .i64 a),(4,.func g caps),(11,.int .i64 (x.1:Nat)),(12,.int .i64 (x.2.1:Nat))]) (fun x H' nxx=>PartR P a e (x.2.1+1-x.1) x.1 x.2.1 x.2.2∧H'=am H b (x.2.2.map f)∧nx=nxx∧PermR a e L x.2.2∧x.2.2.getD a default=v) (fun x=>x.2.1+1-x.1) (a+1,m,N) ⟨by dsimp only;rw[hm];exact .start (by omega),by dsimp only;rw[ao,lm3],rfl,hp1,hv1⟩ ag0 ?_;clear zz;clear lm1 lm2 lm3 hl1 M1 hp1 hv1 hN N te ta hm m;rintro⟨i,j,M⟩ H' nxx ⟨hpt,rfl,rfl,hp,hv⟩;dsimp only at *;have hl:M.length=n:=by rw[hp.len,hn]
 have hGM:=hp.mem hG;generalize hmu:j+1-i=mu at hpt ⊢;clear hmu;obtain⟨T,hT,t0,t1,t4,t11,t12⟩:∃T,tl [(0,.msl b n 1 0 n),(1,.int .i64 a),(4,.func g caps),(11,.int .i64 (i:Nat)),(12,.int .i64 (j:Nat))]=T∧T 0=.msl b n 1 0 n∧T 1=.int .i64 a∧T 4=.func g caps∧T 11=.int .i64 (i:Nat)∧T 12=.int .i64 (j:Nat):=⟨_,rfl,rfl,rfl,rfl,rfl,rfl⟩
 rw[hT];clear hT;refine dg ?_;refine aQ (fun T H'' nx''=>∃i:Nat,PartR P a e mu i j M∧(i≤j→¬P (M.getD i default))∧T 0=.msl b n 1 0 n∧T 1=.int .i64 a∧T 4=.func g caps∧T 11=.int .i64 (i:Nat)∧T 12=.int .i64 (j:Nat)∧H''=am H b ((M).map f)∧nx=nx'') ?_ ?_
 ·have zz:=aI @t0 (aI @t1 (aI @t4 (aI @t11 @t12)));repeat' (first|refine zW ?_|apply a_n|refine zO ?_|fail)
  refine bo (X:=Nat) (fun i=>[(0,.msl b n 1 0 n),(1,.int .i64 a),(4,.func g caps),(11,.int .i64 (i:Nat)),(12,.int .i64 (j:Nat))]) (fun i H' nxx=>PartR P a e mu i j M∧H'=am H b (M.map f)∧nx=nxx) (fun i=>j+1-i) i ⟨hpt,rfl,rfl⟩ (have zz:=aI @t0 (aI @t1 (aI @t4 (aI @t11 @t12)));agZ) ?_;clear zz;clear t0 t1 t4 t11 t12 hpt i;rintro i H' nxx ⟨hpt,rfl,rfl⟩;have hlo:=hpt.lo;have hmid:=hpt.mid;have hhi:=hpt.hi;have ii:((i:Nat):Int)+1=((i+1:Nat):Int):=by omega
  by_cases hij:j<i
  ·repeat' (first|refine zW ?_|refine zM ?_|apply a_n|apply a_x|refine zO ?_|refine vZ ?_|refine gFZ ?_|(refine zGZ ?_ ?_<;>(intro _hg;try (exfalso;omega)))|refine cFZ ?_|fail)
   exact⟨i,hpt,fun h=>absurd h (by omega),rfl,rfl,rfl,rfl,rfl,rfl,rfl⟩
  have lc:=hc.run (M.getD (a) default) (M.getD (i) default) (hGM _ (an (by omega))) (hGM _ (an (by omega)));have e1:=hc.dat (M.getD (a) default);have e2:=hc.dat (M.getD (i) default);have hPk:P (M.getD (i) default)↔ ¬K (M.getD (a) default) (M.getD (i) default)<0:=by rw[hP,hv]
  generalize hKK:K (M.getD (a) default) (M.getD (i) default)=kk at lc hPk;by_cases hlt:kk<0
  ·have zz:=aI @ii (aI @bD (aI hc.cells hc.one));repeat' (first|refine zW ?_|refine zM ?_|apply a_n|apply a_x|refine zO ?_|refine vZ ?_|refine cZ ?_ (hp:=lc) (hs:=by(first|refine ak ?_ rfl|apply au);(repeat' (first|exact ai|apply aD|apply aw|exact e1|exact e2|exact av dcap));first|done|fail)|refine gTZ ?_|(refine zGZ ?_ ?_<;>(intro _hg;try (exfalso;omega)))|fail)
   exact⟨i,hpt,fun _=>(by rw[hPk];first|exact hlt|exact fun h=>h hlt),rfl,rfl,rfl,rfl,rfl,rfl,rfl⟩
  ·have zz:=aI @ii (aI @bD (aI hc.cells hc.one));repeat' (first|refine zW ?_|refine zM ?_|apply a_n|refine zO ?_|refine vZ ?_|refine cZ ?_ (hp:=lc) (hs:=by(first|refine ak ?_ rfl|apply au);(repeat' (first|exact ai|apply aD|apply aw|exact e1|exact e2|exact av dcap));first|done|fail)|refine gTZ ?_|(refine zGZ ?_ ?_<;>(intro _hg;try (exfalso;omega)))|fail)
   exact⟨i+1,by omega,⟨hpt.stepUp (by omega) (by rw[hPk];exact hlt),rfl,rfl⟩,ag0⟩
 clear t0 t1 t4 t11 t12 hpt i;rintro T _ _ ⟨i,hpt,hni,t0,t1,t4,t11,t12,rfl,rfl⟩;refine aQ (fun T H'' nx''=>∃j:Nat,PartR P a e mu i j M∧(i≤j→¬P (M.getD i default))∧(i≤j→P (M.getD j default))∧T 0=.msl b n 1 0 n∧T 1=.int .i64 a∧T 4=.func g caps∧T 11=.int .i64 (i:Nat)∧T 12=.int .i64 (j:Nat)∧H''=am H b ((M).map f)∧nx=nx'') ?_ ?_
 ·have zz:=aI @t0 (aI @t1 (aI @t4 (aI @t11 @t12)));repeat' (first|refine zW ?_|apply a_n|refine zO ?_|fail)
  refine bo (X:=Nat) (fun j=>[(0,.msl b n 1 0 n),(1,.int .i64 a),(4,.func g caps),(11,.int .i64 (i:Nat)),(12,.int .i64 (j:Nat))]) (fun j H' nxx=>PartR P a e mu i j M∧(i≤j→¬P (M.getD i default))∧H'=am H b (M.map f)∧nx=nxx) (fun j=>j) j ⟨hpt,hni,rfl,rfl⟩ (have zz:=aI @t0 (aI @t1 (aI @t4 (aI @t11 @t12)));agZ) ?_;clear zz;clear t0 t1 t4 t11 t12 hpt hni j;rintro j H' nxx ⟨hpt,hni,rfl,rfl⟩;have hlo:=hpt.lo;have hmid:=hpt.mid;have hhi:=hpt.hi;by_cases hij:j<i
  ·repeat' (first|refine zW ?_|refine zM ?_|apply a_n|apply a_x|refine zO ?_|refine vZ ?_|refine gFZ ?_|(refine zGZ ?_ ?_<;>(intro _hg;try (exfalso;omega)))|refine cFZ ?_|fail)
   exact⟨j,hpt,hni,fun h=>absurd h (by omega),rfl,rfl,rfl,rfl,rfl,rfl,rfl⟩
  obtain⟨k,rfl⟩:∃k,j=k+1:=⟨j-1,by omega⟩
  have tk:((k+1:Nat):Int)-1=(k:Int):=by omega
  have lc:=hc.run (M.getD (a) default) (M.getD (k+1) default) (hGM _ (an (by omega))) (hGM _ (an (by omega)));have e1:=hc.dat (M.getD (a) default);have e2:=hc.dat (M.getD (k+1) default);have hPk:P (M.getD (k+1) default)↔ ¬K (M.getD (a) default) (M.getD (k+1) default)<0:=by rw[hP,hv]
  generalize hKK:K (M.getD (a) default) (M.getD (k+1) default)=kk at lc hPk;by_cases hlt:kk<0
  ·have zz:=aI @tk (aI @bD (aI hc.cells hc.one));repeat' (first|refine zW ?_|refine zM ?_|apply a_n|refine zO ?_|refine vZ ?_|refine cZ ?_ (hp:=lc) (hs:=by(first|refine ak ?_ rfl|apply au);(repeat' (first|exact ai|apply aD|apply aw|exact e1|exact e2|exact av dcap));first|done|fail)|refine gTZ ?_|(refine zGZ ?_ ?_<;>(intro _hg;try (exfalso;omega)))|fail)
   exact⟨k,by omega,⟨hpt.stepDn (by omega) (by rw[hPk];first|exact hlt|exact fun h=>h hlt),fun _=>hni (by omega),rfl,rfl⟩,ag0⟩
  ·have zz:=aI @tk (aI @bD (aI hc.cells hc.one));repeat' (first|refine zW ?_|refine zM ?_|apply a_n|apply a_x|refine zO ?_|refine vZ ?_|refine cZ ?_ (hp:=lc) (hs:=by(first|refine ak ?_ rfl|apply au);(repeat' (first|exact ai|apply aD|apply aw|exact e1|exact e2|exact av dcap));first|done|fail)|refine gTZ ?_|(refine zGZ ?_ ?_<;>(intro _hg;try (exfalso;omega)))|fail)
   exact⟨k+1,hpt,hni,fun _=>(by rw[hPk];exact hlt),rfl,rfl,rfl,rfl,rfl,rfl,rfl⟩
 clear t0 t1 t4 t11 t12 hpt hni j;rintro T _ _ ⟨j,hpt,hni,hnj,t0,t1,t4,t11,t12,rfl,rfl⟩;have hlo:=hpt.lo;have hmid:=hpt.mid;have hhi:=hpt.hi;by_cases hji:j<i
 ·have zz:=aI @t0 (aI @t1 (aI @t4 (aI @t11 @t12)));repeat' (first|refine zW ?_|apply a_n|apply a_x|refine zO ?_|refine vZ ?_|(refine zGZ ?_ ?_<;>(intro _hg;try (exfalso;omega)))|refine ae rfl ?_|refine r1Z ?_|fail)
  refine⟨rfl,M,i,rfl,by omega,by omega,rfl,hp,fun p h1 h2=>?_,fun q h1 h2=>by have:=hpt.dn q (by omega) h2;rw[hP] at this;exact s9 this⟩;by_cases ep:p=a
  ·rw[ep,hv];exact hc.ord.irr _
  ·exact(hP _).1 (hpt.up p (by omega) h2)
 obtain⟨k,rfl⟩:∃k,j=k+1:=⟨j-1,by omega⟩
 have tk:((k+1:Nat):Int)-1=(k:Int):=by omega
 have ii:((i:Nat):Int)+1=((i+1:Nat):Int):=by omega
 obtain⟨M1,hl1,lm1,lm2⟩:=da (f:=f) (M:=M) (i:=i) (j:=k+1) (by omega) (by omega);have lm3:=lm2;simp only[bv,de,dF,bQ] at lm1 lm2;have zz:=aI @t0 (aI @t1 (aI @t4 (aI @t11 (aI @t12 (aI @tk (aI @ii (aI @bD (aI hc.cells (aI hc.one (aI @lm1 @lm2))))))))));repeat' (first|refine zW ?_|apply a_n|refine zO ?_|refine vZ ?_|refine stZ ?_|(refine zGZ ?_ ?_<;>(intro _hg;try (exfalso;omega)))|fail)
 obtain⟨hq1,hq2⟩:=hpt.swap (by omega) (by omega) (hni (by omega)) (hnj (by omega));exact⟨(i+1,k,swp M i (k+1)),hq2,⟨hq1,by dsimp only;rw[ao,ao,lm3],rfl,hp.trans (PermR.swap (by omega) (by omega) (by omega)),by dsimp only;rw[gI (by omega) (by omega) (by omega) (by omega)];exact hv⟩,(have zz:=aI @t0 (aI @t1 (aI @t4 (aI @t11 @t12)));agZ)⟩
theorem AQ(hc:Cmp Tryz.prog f K G g caps){L:List α}{H:Hp}{b nx n a e pv:Nat}(hH:H b=some (L.map f))(hn:L.length=n)(hG:∀x∈L,G x)(hae:a<e)(hen:e≤n)(hn2:n≤1000000000)(hpv:a≤pv∧pv<e):
    Abs.Fn Tryz.prog 116 [.msl b n 1 0 n,.int .i64 a,.int .i64 e,.int .i64 pv,.func g caps] H nx fun r H' nx'=>nx'=nx∧∃(L':List α)(m:Nat)(t:Bool),r=.tup [.int .i64 m,.bool t]∧a≤m∧m<e∧H'=am H b (L'.map f)∧PermR a e L L'∧(∀p,a≤p→p<m→K (L'.getD p default) (L'.getD m default)<0)∧(∀q,m<q→q<e→¬K (L'.getD q default) (L'.getD m default)<0):=by
 have dcap:=hc.dcaps;obtain⟨v,hv0⟩:∃v,L.getD pv default=v:=⟨_,rfl⟩
 obtain⟨P,hP⟩:∃P:α→Prop,∀x,P x↔K x v<0:=⟨_,fun _=>Iff.rfl⟩
 obtain⟨M,hN⟩:∃N,swp L a pv=N:=⟨_,rfl⟩
 have hp:PermR a e L M:=hN▸PermR.swap (by omega) (by omega) (by omega)
 have hv:M.getD a default=v:=by
  rw[←hN,dq (by omega) (by omega),←hv0];split
  ·rename_i h;rw[h]
  ·rw[if_pos rfl]
 obtain⟨M1,hl1,lm1,lm2⟩:=da (f:=f) (M:=L) (i:=a) (j:=pv) (by omega) (by omega);rw[hN] at lm2;have lm3:=lm2;simp only[bv,de,dF,bQ] at lm1 lm2;obtain⟨m,hm⟩:∃m,e=m+1:=⟨e-1,by omega⟩
 have te:(e:Int)-1=(m:Int):=by omega
 have ta:((a:Nat):Int)+1=((a+1:Nat):Int):=by omega
 refine fO Cg ?_;simp only[BM,ay];refine aQ (fun T H'' nx''=>T 0=.msl b n 1 0 n∧T 1=.int .i64 a∧T 2=.int .i64 e∧T 3=.int .i64 pv∧T 4=.func g caps∧H=H''∧nx=nx'') ?_ ?_
 ·repeat' (first|apply a_n|refine zO ?_|refine vZ ?_|fail)
  exact⟨rfl,rfl,rfl,rfl,rfl,rfl,rfl⟩
 rintro T _ _ ⟨t0,t1,t2,t3,t4,rfl,rfl⟩;refine aQ (fun T H'' nx''=>T 0=.msl b n 1 0 n∧T 1=.int .i64 a∧T 2=.int .i64 e∧T 3=.int .i64 pv∧T 4=.func g caps∧H''=am H b (M.map f)∧nx=nx'') ?_ ?_
 ·have zz:=aI @t0 (aI @t1 (aI @t2 (aI @t3 (aI @t4 (aI @hH (aI @bD (aI hc.cells (aI hc.one (aI @lm1 @lm2)))))))));repeat' (first|apply a_n|refine zO ?_|refine vZ ?_|refine stZ ?_|fail)
  exact⟨(have zz:=@t0;evZ),(have zz:=@t1;evZ),(have zz:=@t2;evZ),(have zz:=@t3;evZ),(have zz:=@t4;evZ),by rw[ao,lm3],rfl⟩
 clear t0 t1 t2 t3 t4 lm1 lm2 lm3 hl1 M1 hN;rintro T _ _ ⟨t0,t1,t2,t3,t4,rfl,rfl⟩;refine aQ (fun T H'' nx''=>∃mu i j:Nat,PartR P a e mu i j M∧T 0=.msl b n 1 0 n∧T 1=.int .i64 a∧T 4=.func g caps∧T 12=.int .i64 (i:Nat)∧T 13=.int .i64 (j:Nat)∧H''=am H b ((M).map f)∧nx=nx'') ?_ ?_
 ·have zz:=aI @t0 (aI @t1 (aI @t2 (aI @t3 (aI @t4 (aI @ta @te)))));repeat' (first|apply a_n|refine zO ?_|refine vZ ?_|fail)
  exact⟨_,a+1,m,by rw[hm];exact .start (by omega),(have zz:=@t0;evZ),(have zz:=@t1;evZ),(have zz:=@t4;evZ),ev0,ev0,rfl,rfl⟩
 clear t0 t1 t2 t3 t4 ta te hm m;rintro T _ _ ⟨mu,i,j,hpt,t0,t1,t4,t12,t13,rfl,rfl⟩;have hl:M.length=n:=by rw[hp.len,hn]
 have hGM:=hp.mem hG;refine aQ (fun T H'' nx''=>∃i:Nat,PartR P a e mu i j M∧(i≤j→¬P (M.getD i default))∧T 0=.msl b n 1 0 n∧T 1=.int .i64 a∧T 4=.func g caps∧T 12=.int .i64 (i:Nat)∧T 13=.int .i64 (j:Nat)∧H''=am H b ((M).map f)∧nx=nx'') ?_ ?_
 ·have zz:=aI @t0 (aI @t1 (aI @t4 (aI @t12 @t13)));repeat' (first|refine zW ?_|apply a_n|refine zO ?_|fail)
  refine bo (X:=Nat) (fun i=>[(0,.msl b n 1 0 n),(1,.int .i64 a),(4,.func g caps),(12,.int .i64 (i:Nat)),(13,.int .i64 (j:Nat))]) (fun i H' nxx=>PartR P a e mu i j M∧H'=am H b (M.map f)∧nx=nxx) (fun i=>j+1-i) i ⟨hpt,rfl,rfl⟩ (have zz:=aI @t0 (aI @t1 (aI @t4 (aI @t12 @t13)));agZ) ?_;clear zz;clear t0 t1 t4 t12 t13 hpt i;rintro i H' nxx ⟨hpt,rfl,rfl⟩;have hlo:=hpt.lo;have hmid:=hpt.mid;have hhi:=hpt.hi;have ii:((i:Nat):Int)+1=((i+1:Nat):Int):=by omega
  by_cases hij:j<i
  ·repeat' (first|refine zW ?_|refine zM ?_|apply a_n|apply a_x|refine zO ?_|refine vZ ?_|refine gFZ ?_|(refine zGZ ?_ ?_<;>(intro _hg;try (exfalso;omega)))|refine cFZ ?_|fail)
   exact⟨i,hpt,fun h=>absurd h (by omega),rfl,rfl,rfl,rfl,rfl,rfl,rfl⟩
  have lc:=hc.run (M.getD (i) default) (M.getD (a) default) (hGM _ (an (by omega))) (hGM _ (an (by omega)));have e1:=hc.dat (M.getD (i) default);have e2:=hc.dat (M.getD (a) default);have hPk:P (M.getD (i) default)↔K (M.getD (i) default) (M.getD (a) default)<0:=by rw[hP,hv]
  generalize hKK:K (M.getD (i) default) (M.getD (a) default)=kk at lc hPk;by_cases hlt:kk<0
  ·have zz:=aI @ii (aI @bD (aI hc.cells hc.one));repeat' (first|refine zW ?_|refine zM ?_|apply a_n|refine zO ?_|refine vZ ?_|refine cZ ?_ (hp:=lc) (hs:=by(first|refine ak ?_ rfl|apply au);(repeat' (first|exact ai|apply aD|apply aw|exact e1|exact e2|exact av dcap));first|done|fail)|refine gTZ ?_|(refine zGZ ?_ ?_<;>(intro _hg;try (exfalso;omega)))|fail)
   exact⟨i+1,by omega,⟨hpt.stepUp (by omega) (by rw[hPk];exact hlt),rfl,rfl⟩,ag0⟩
  ·have zz:=aI @ii (aI @bD (aI hc.cells hc.one));repeat' (first|refine zW ?_|refine zM ?_|apply a_n|apply a_x|refine zO ?_|refine vZ ?_|refine cZ ?_ (hp:=lc) (hs:=by(first|refine ak ?_ rfl|apply au);(repeat' (first|exact ai|apply aD|apply aw|exact e1|exact e2|exact av dcap));first|done|fail)|refine gTZ ?_|(refine zGZ ?_ ?_<;>(intro _hg;try (exfalso;omega)))|fail)
   exact⟨i,hpt,fun _=>(by rw[hPk];first|exact hlt|exact fun h=>h hlt),rfl,rfl,rfl,rfl,rfl,rfl,rfl⟩
 clear t0 t1 t4 t12 t13 hpt i;rintro T _ _ ⟨i,hpt,hni,t0,t1,t4,t12,t13,rfl,rfl⟩;refine aQ (fun T H'' nx''=>∃j:Nat,PartR P a e mu i j M∧(i≤j→¬P (M.getD i default))∧(i≤j→P (M.getD j default))∧T 0=.msl b n 1 0 n∧T 1=.int .i64 a∧T 4=.func g caps∧T 12=.int .i64 (i:Nat)∧T 13=.int .i64 (j:Nat)∧H''=am H b ((M).map f)∧nx=nx'') ?_ ?_
 ·have zz:=aI @t0 (aI @t1 (aI @t4 (aI @t12 @t13)));repeat' (first|refine zW ?_|apply a_n|refine zO ?_|fail)
  refine bo (X:=Nat) (fun j=>[(0,.msl b n 1 0 n),(1,.int .i64 a),(4,.func g caps),(12,.int .i64 (i:Nat)),(13,.int .i64 (j:Nat))]) (fun j H' nxx=>PartR P a e mu i j M∧(i≤j→¬P (M.getD i default))∧H'=am H b (M.map f)∧nx=nxx) (fun j=>j) j ⟨hpt,hni,rfl,rfl⟩ (have zz:=aI @t0 (aI @t1 (aI @t4 (aI @t12 @t13)));agZ) ?_;clear zz;clear t0 t1 t4 t12 t13 hpt hni j;rintro j H' nxx ⟨hpt,hni,rfl,rfl⟩;have hlo:=hpt.lo;have hmid:=hpt.mid;have hhi:=hpt.hi;by_cases hij:j<i
  ·repeat' (first|refine zW ?_|refine zM ?_|apply a_n|apply a_x|refine zO ?_|refine vZ ?_|refine gFZ ?_|(refine zGZ ?_ ?_<;>(intro _hg;try (exfalso;omega)))|refine cFZ ?_|fail)
   exact⟨j,hpt,hni,fun h=>absurd h (by omega),rfl,rfl,rfl,rfl,rfl,rfl,rfl⟩
  obtain⟨k,rfl⟩:∃k,j=k+1:=⟨j-1,by omega⟩
  have tk:((k+1:Nat):Int)-1=(k:Int):=by omega
  have lc:=hc.run (M.getD (k+1) default) (M.getD (a) default) (hGM _ (an (by omega))) (hGM _ (an (by omega)));have e1:=hc.dat (M.getD (k+1) default);have e2:=hc.dat (M.getD (a) default);have hPk:P (M.getD (k+1) default)↔K (M.getD (k+1) default) (M.getD (a) default)<0:=by rw[hP,hv]
  generalize hKK:K (M.getD (k+1) default) (M.getD (a) default)=kk at lc hPk;by_cases hlt:kk<0
  ·have zz:=aI @tk (aI @bD (aI hc.cells hc.one));repeat' (first|refine zW ?_|refine zM ?_|apply a_n|apply a_x|refine zO ?_|refine vZ ?_|refine cZ ?_ (hp:=lc) (hs:=by(first|refine ak ?_ rfl|apply au);(repeat' (first|exact ai|apply aD|apply aw|exact e1|exact e2|exact av dcap));first|done|fail)|refine gTZ ?_|(refine zGZ ?_ ?_<;>(intro _hg;try (exfalso;omega)))|fail)
   exact⟨k+1,hpt,hni,fun _=>(by rw[hPk];exact hlt),rfl,rfl,rfl,rfl,rfl,rfl,rfl⟩
  ·have zz:=aI @tk (aI @bD (aI hc.cells hc.one));repeat' (first|refine zW ?_|refine zM ?_|apply a_n|refine zO ?_|refine vZ ?_|refine cZ ?_ (hp:=lc) (hs:=by(first|refine ak ?_ rfl|apply au);(repeat' (first|exact ai|apply aD|apply aw|exact e1|exact e2|exact av dcap));first|done|fail)|refine gTZ ?_|(refine zGZ ?_ ?_<;>(intro _hg;try (exfalso;omega)))|fail)
   exact⟨k,by omega,⟨hpt.stepDn (by omega) (by rw[hPk];first|exact hlt|exact fun h=>h hlt),fun _=>hni (by omega),rfl,rfl⟩,ag0⟩
 clear t0 t1 t4 t12 t13 hpt hni j;rintro T _ _ ⟨j,hpt,hni,hnj,t0,t1,t4,t12,t13,rfl,rfl⟩;have hlo:=hpt.lo;have hmid:=hpt.mid;have hhi:=hpt.hi;by_cases hji:j<i
 ·clear hni hnj;obtain⟨z1,z2,z3,z4⟩:=hpt.done hc.ord (by omega) hji hv hP;obtain⟨M1,hl1,lm1,lm2⟩:=da (f:=f) (M:=M) (i:=j) (j:=a) (by omega) (by omega);have lm3:=lm2;simp only[bv,de,dF,bQ] at lm1 lm2;have zz:=aI @t0 (aI @t1 (aI @t4 (aI @t12 (aI @t13 (aI @bD (aI hc.cells (aI hc.one (aI @lm1 @lm2))))))));repeat' (first|refine zW ?_|apply a_n|apply a_r|refine zO ?_|refine vZ ?_|refine stZ ?_|(refine zGZ ?_ ?_<;>(intro _hg;try (exfalso;omega)))|refine ae rfl ?_|refine r2Z ?_|fail)
  exact⟨rfl,swp M j a,j,true,rfl,z1,z2,by rw[ao,ao,lm3],hp.trans (PermR.swap (by omega) (by omega) (by omega)),z3,z4⟩
 obtain⟨k,rfl⟩:∃k,j=k+1:=⟨j-1,by omega⟩
 have tk:((k+1:Nat):Int)-1=(k:Int):=by omega
 have ii:((i:Nat):Int)+1=((i+1:Nat):Int):=by omega
 obtain⟨M1,hl1,lm1,lm2⟩:=da (f:=f) (M:=M) (i:=i) (j:=k+1) (by omega) (by omega);have lm3:=lm2;simp only[bv,de,dF,bQ] at lm1 lm2;have zz:=aI @t0 (aI @t1 (aI @t4 (aI @t12 (aI @t13 (aI @tk (aI @ii (aI @bD (aI hc.cells (aI hc.one (aI @lm1 @lm2))))))))));repeat' (first|refine zW ?_|apply a_n|refine zO ?_|refine vZ ?_|refine stZ ?_|(refine zGZ ?_ ?_<;>(intro _hg;try (exfalso;omega)))|fail)
 obtain⟨hq1,hq2⟩:=hpt.swap (by omega) (by omega) (hni (by omega)) (hnj (by omega));have hp2:PermR a e L (swp M i (k+1)):=hp.trans (PermR.swap (by omega) (by omega) (by omega));have hv2:(swp M i (k+1)).getD a default=v:=by rw[gI (by omega) (by omega) (by omega) (by omega)];exact hv
 refine bo (X:=Nat×Nat×List α) (fun x=>[(0,.msl b n 1 0 n),(1,.int .i64 a),(4,.func g caps),(12,.int .i64 (x.1:Nat)),(13,.int .i64 (x.2.1:Nat))]) (fun x H' nxx=>PartR P a e (x.2.1+1-x.1) x.1 x.2.1 x.2.2∧H'=am H b (x.2.2.map f)∧nx=nxx∧PermR a e L x.2.2∧x.2.2.getD a default=v) (fun x=>x.2.1+1-x.1) (i+1,k,swp M i (k+1)) ⟨hq1,by dsimp only;rw[ao,ao,lm3],rfl,hp2,hv2⟩ (have zz:=aI @t0 (aI @t1 (aI @t4 (aI @t12 @t13)));agZ) ?_;clear zz;clear t0 t1 t4 t12 t13 lm1 lm2 lm3 hl1 M1 hp2 hv2 hq1 hq2 hpt hni hnj hp hv hGM;rintro⟨i,j,M⟩ H' nxx ⟨hpt,rfl,rfl,hp,hv⟩;dsimp only at *;have hl:M.length=n:=by rw[hp.len,hn]
 have hGM:=hp.mem hG;generalize hmu:j+1-i=mu at hpt ⊢;clear hmu;obtain⟨T,hT,t0,t1,t4,t12,t13⟩:∃T,tl [(0,.msl b n 1 0 n),(1,.int .i64 a),(4,.func g caps),(12,.int .i64 (i:Nat)),(13,.int .i64 (j:Nat))]=T∧T 0=.msl b n 1 0 n∧T 1=.int .i64 a∧T 4=.func g caps∧T 12=.int .i64 (i:Nat)∧T 13=.int .i64 (j:Nat):=⟨_,rfl,rfl,rfl,rfl,rfl,rfl⟩
 rw[hT];clear hT;refine dg ?_;refine aQ (fun T H'' nx''=>∃i:Nat,PartR P a e mu i j M∧(i≤j→¬P (M.getD i default))∧T 0=.msl b n 1 0 n∧T 1=.int .i64 a∧T 4=.func g caps∧T 12=.int .i64 (i:Nat)∧T 13=.int .i64 (j:Nat)∧H''=am H b ((M).map f)∧nx=nx'') ?_ ?_
 ·have zz:=aI @t0 (aI @t1 (aI @t4 (aI @t12 @t13)));repeat' (first|refine zW ?_|apply a_n|refine zO ?_|fail)
  refine bo (X:=Nat) (fun i=>[(0,.msl b n 1 0 n),(1,.int .i64 a),(4,.func g caps),(12,.int .i64 (i:Nat)),(13,.int .i64 (j:Nat))]) (fun i H' nxx=>PartR P a e mu i j M∧H'=am H b (M.map f)∧nx=nxx) (fun i=>j+1-i) i ⟨hpt,rfl,rfl⟩ (have zz:=aI @t0 (aI @t1 (aI @t4 (aI @t12 @t13)));agZ) ?_;clear zz;clear t0 t1 t4 t12 t13 hpt i;rintro i H' nxx ⟨hpt,rfl,rfl⟩;have hlo:=hpt.lo;have hmid:=hpt.mid;have hhi:=hpt.hi;have ii:((i:Nat):Int)+1=((i+1:Nat):Int):=by omega
  by_cases hij:j<i
  ·repeat' (first|refine zW ?_|refine zM ?_|apply a_n|apply a_x|refine zO ?_|refine vZ ?_|refine gFZ ?_|(refine zGZ ?_ ?_<;>(intro _hg;try (exfalso;omega)))|refine cFZ ?_|fail)
   exact⟨i,hpt,fun h=>absurd h (by omega),rfl,rfl,rfl,rfl,rfl,rfl,rfl⟩
  have lc:=hc.run (M.getD (i) default) (M.getD (a) default) (hGM _ (an (by omega))) (hGM _ (an (by omega)));have e1:=hc.dat (M.getD (i) default);have e2:=hc.dat (M.getD (a) default);have hPk:P (M.getD (i) default)↔K (M.getD (i) default) (M.getD (a) default)<0:=by rw[hP,hv]
  generalize hKK:K (M.getD (i) default) (M.getD (a) default)=kk at lc hPk;by_cases hlt:kk<0
  ·have zz:=aI @ii (aI @bD (aI hc.cells hc.one));repeat' (first|refine zW ?_|refine zM ?_|apply a_n|refine zO ?_|refine vZ ?_|refine cZ ?_ (hp:=lc) (hs:=by(first|refine ak ?_ rfl|apply au);(repeat' (first|exact ai|apply aD|apply aw|exact e1|exact e2|exact av dcap));first|done|fail)|refine gTZ ?_|(refine zGZ ?_ ?_<;>(intro _hg;try (exfalso;omega)))|fail)
   exact⟨i+1,by omega,⟨hpt.stepUp (by omega) (by rw[hPk];exact hlt),rfl,rfl⟩,ag0⟩
  ·have zz:=aI @ii (aI @bD (aI hc.cells hc.one));repeat' (first|refine zW ?_|refine zM ?_|apply a_n|apply a_x|refine zO ?_|refine vZ ?_|refine cZ ?_ (hp:=lc) (hs:=by(first|refine ak ?_ rfl|apply au);(repeat' (first|exact ai|apply aD|apply aw|exact e1|exact e2|exact av dcap));first|done|fail)|refine gTZ ?_|(refine zGZ ?_ ?_<;>(intro _hg;try (exfalso;omega)))|fail)
   exact⟨i,hpt,fun _=>(by rw[hPk];first|exact hlt|exact fun h=>h hlt),rfl,rfl,rfl,rfl,rfl,rfl,rfl⟩
 clear t0 t1 t4 t12 t13 hpt i;rintro T _ _ ⟨i,hpt,hni,t0,t1,t4,t12,t13,rfl,rfl⟩;refine aQ (fun T H'' nx''=>∃j:Nat,PartR P a e mu i j M∧(i≤j→¬P (M.getD i default))∧(i≤j→P (M.getD j default))∧T 0=.msl b n 1 0 n∧T 1=.int .i64 a∧T 4=.func g caps∧T 12=.int .i64 (i:Nat)∧T 13=.int .i64 (j:Nat)∧H''=am H b ((M).map f)∧nx=nx'') ?_ ?_
 ·have zz:=aI @t0 (aI @t1 (aI @t4 (aI @t12 @t13)));repeat' (first|refine zW ?_|apply a_n|refine zO ?_|fail)
  refine bo (X:=Nat) (fun j=>[(0,.msl b n 1 0 n),(1,.int .i64 a),(4,.func g caps),(12,.int .i64 (i:Nat)),(13,.int .i64 (j:Nat))]) (fun j H' nxx=>PartR P a e mu i j M∧(i≤j→¬P (M.getD i default))∧H'=am H b (M.map f)∧nx=nxx) (fun j=>j) j ⟨hpt,hni,rfl,rfl⟩ (have zz:=aI @t0 (aI @t1 (aI @t4 (aI @t12 @t13)));agZ) ?_;clear zz;clear t0 t1 t4 t12 t13 hpt hni j;rintro j H' nxx ⟨hpt,hni,rfl,rfl⟩;have hlo:=hpt.lo;have hmid:=hpt.mid;have hhi:=hpt.hi;by_cases hij:j<i
  ·repeat' (first|refine zW ?_|refine zM ?_|apply a_n|apply a_x|refine zO ?_|refine vZ ?_|refine gFZ ?_|(refine zGZ ?_ ?_<;>(intro _hg;try (exfalso;omega)))|refine cFZ ?_|fail)
   exact⟨j,hpt,hni,fun h=>absurd h (by omega),rfl,rfl,rfl,rfl,rfl,rfl,rfl⟩
  obtain⟨k,rfl⟩:∃k,j=k+1:=⟨j-1,by omega⟩
  have tk:((k+1:Nat):Int)-1=(k:Int):=by omega
  have lc:=hc.run (M.getD (k+1) default) (M.getD (a) default) (hGM _ (an (by omega))) (hGM _ (an (by omega)));have e1:=hc.dat (M.getD (k+1) default);have e2:=hc.dat (M.getD (a) default);have hPk:P (M.getD (k+1) default)↔K (M.getD (k+1) default) (M.getD (a) default)<0:=by rw[hP,hv]
  generalize hKK:K (M.getD (k+1) default) (M.getD (a) default)=kk at lc hPk;by_cases hlt:kk<0
  ·have zz:=aI @tk (aI @bD (aI hc.cells hc.one));repeat' (first|refine zW ?_|refine zM ?_|apply a_n|apply a_x|refine zO ?_|refine vZ ?_|refine cZ ?_ (hp:=lc) (hs:=by(first|refine ak ?_ rfl|apply au);(repeat' (first|exact ai|apply aD|apply aw|exact e1|exact e2|exact av dcap));first|done|fail)|refine gTZ ?_|(refine zGZ ?_ ?_<;>(intro _hg;try (exfalso;omega)))|fail)
   exact⟨k+1,hpt,hni,fun _=>(by rw[hPk];exact hlt),rfl,rfl,rfl,rfl,rfl,rfl,rfl⟩
  ·have zz:=aI @tk (aI @bD (aI hc.cells hc.one));repeat' (first|refine zW ?_|refine zM ?_|apply a_n|refine zO ?_|refine vZ ?_|refine cZ ?_ (hp:=lc) (hs:=by(first|refine ak ?_ rfl|apply au);(repeat' (first|exact ai|apply aD|apply aw|exact e1|exact e2|exact av dcap));first|done|fail)|refine gTZ ?_|(refine zGZ ?_ ?_<;>(intro _hg;try (exfalso;omega)))|fail)
   exact⟨k,by omega,⟨hpt.stepDn (by omega) (by rw[hPk];first|exact hlt|exact fun h=>h hlt),fun _=>hni (by omega),rfl,rfl⟩,ag0⟩
 clear t0 t1 t4 t12 t13 hpt hni j;rintro T _ _ ⟨j,hpt,hni,hnj,t0,t1,t4,t12,t13,rfl,rfl⟩;have hlo:=hpt.lo;have hmid:=hpt.mid;have hhi:=hpt.hi;by_cases hji:j<i
 ·clear hni hnj;obtain⟨z1,z2,z3,z4⟩:=hpt.done hc.ord (by omega) hji hv hP;obtain⟨M1,hl1,lm1,lm2⟩:=da (f:=f) (M:=M) (i:=j) (j:=a) (by omega) (by omega);have lm3:=lm2;simp only[bv,de,dF,bQ] at lm1 lm2;have zz:=aI @t0 (aI @t1 (aI @t4 (aI @t12 (aI @t13 (aI @bD (aI hc.cells (aI hc.one (aI @lm1 @lm2))))))));repeat' (first|refine zW ?_|apply a_n|apply a_x|refine zO ?_|refine vZ ?_|refine stZ ?_|(refine zGZ ?_ ?_<;>(intro _hg;try (exfalso;omega)))|refine ae rfl ?_|refine r2Z ?_|fail)
  exact⟨rfl,swp M j a,j,false,rfl,z1,z2,by rw[ao,ao,lm3],hp.trans (PermR.swap (by omega) (by omega) (by omega)),z3,z4⟩
 obtain⟨k,rfl⟩:∃k,j=k+1:=⟨j-1,by omega⟩
 have tk:((k+1:Nat):Int)-1=(k:Int):=by omega
 have ii:((i:Nat):Int)+1=((i+1:Nat):Int):=by omega
 obtain⟨M1,hl1,lm1,lm2⟩:=da (f:=f) (M:=M) (i:=i) (j:=k+1) (by omega) (by omega);have lm3:=lm2;simp only[bv,de,dF,bQ] at lm1 lm2;have zz:=aI @t0 (aI @t1 (aI @t4 (aI @t12 (aI @t13 (aI @tk (aI @ii (aI @bD (aI hc.cells (aI hc.one (aI @lm1 @lm2))))))))));repeat' (first|refine zW ?_|apply a_n|refine zO ?_|refine vZ ?_|refine stZ ?_|(refine zGZ ?_ ?_<;>(intro _hg;try (exfalso;omega)))|fail)
 obtain⟨hq1,hq2⟩:=hpt.swap (by omega) (by omega) (hni (by omega)) (hnj (by omega));exact⟨(i+1,k,swp M i (k+1)),hq2,⟨hq1,by dsimp only;rw[ao,ao,lm3],rfl,hp.trans (PermR.swap (by omega) (by omega) (by omega)),by dsimp only;rw[gI (by omega) (by omega) (by omega) (by omega)];exact hv⟩,(have zz:=aI @t0 (aI @t1 (aI @t4 (aI @t12 @t13)));agZ)⟩
end
end Go.Proofs.YtcbkggfipdldaaaGreat
namespace Go.Proofs.YtcbkggfipdldaaaGreat
open Go Go.Abs
def j9(x:Nat):Nat:=if x=0 then 0 else Nat.log2 x+1
def mQ:ByteArray:=ByteArray.mk (Array.mk [0,1,2,2,3,3,3,3,4,4,4,4,4,4,4,4,5,5,5,5,5,5,5,5,5,5,5,5,5,5,5,5,6,6,6,6,6,6,6,6,6,6,6,6,6,6,6,6,6,6,6,6,6,6,6,6,6,6,6,6,6,6,6,6,7,7,7,7,7,7,7,7,7,7,7,7,7,7,7,7,7,7,7,7,7,7,7,7,7,7,7,7,7,7,7,7,7,7,7,7,7,7,7,7,7,7,7,7,7,7,7,7,7,7,7,7,7,7,7,7,7,7,7,7,7,7,7,7,8,8,8,8,8,8,8,8,8,8,8,8,8,8,8,8,8,8,8,8,8,8,8,8,8,8,8,8,8,8,8,8,8,8,8,8,8,8,8,8,8,8,8,8,8,8,8,8,8,8,8,8,8,8,8,8,8,8,8,8,8,8,8,8,8,8,8,8,8,8,8,8,8,8,8,8,8,8,8,8,8,8,8,8,8,8,8,8,8,8,8,8,8,8,8,8,8,8,8,8,8,8,8,8,8,8,8,8,8,8,8,8,8,8,8,8,8,8,8,8,8,8,8,8,8,8,8,8])
theorem zv(x:Nat):x<2^j9 x:=by
 unfold j9;split
 ·omega
 ·exact Nat.lt_log2_self
theorem vn{x:Nat}(h:0<x):2^j9 x≤2*x:=by
 unfold j9;rw[if_neg (by omega),Nat.pow_succ];have:=Nat.log2_self_le (n:=x) (by omega);omega
theorem sC{x:Nat}(hx:x<256):jT (.str (ByteArray.mk (Array.mk [0,1,2,2,3,3,3,3,4,4,4,4,4,4,4,4,5,5,5,5,5,5,5,5,5,5,5,5,5,5,5,5,6,6,6,6,6,6,6,6,6,6,6,6,6,6,6,6,6,6,6,6,6,6,6,6,6,6,6,6,6,6,6,6,7,7,7,7,7,7,7,7,7,7,7,7,7,7,7,7,7,7,7,7,7,7,7,7,7,7,7,7,7,7,7,7,7,7,7,7,7,7,7,7,7,7,7,7,7,7,7,7,7,7,7,7,7,7,7,7,7,7,7,7,7,7,7,7,8,8,8,8,8,8,8,8,8,8,8,8,8,8,8,8,8,8,8,8,8,8,8,8,8,8,8,8,8,8,8,8,8,8,8,8,8,8,8,8,8,8,8,8,8,8,8,8,8,8,8,8,8,8,8,8,8,8,8,8,8,8,8,8,8,8,8,8,8,8,8,8,8,8,8,8,8,8,8,8,8,8,8,8,8,8,8,8,8,8,8,8,8,8,8,8,8,8,8,8,8,8,8,8,8,8,8,8,8,8,8,8,8,8,8,8,8,8,8,8,8,8,8,8,8,8,8,8]))) (.int .u8 (x:Nat))=some (.int .u8 (j9 x:Nat)):=by
 have h1:mQ.size=256:=by decide+kernel
 have h2:∀i:Fin 256,(mQ[i.val]?.getD 0).toNat=j9 i.val:=by decide+kernel
 rw[SV2.2.2.2.2.2.2.2.2];have h3:=h2 ⟨x,hx⟩;change (if 0≤(x:Int)∧(x:Int)<mQ.size then some (AV.int .u8 (mQ[(x:Int).toNat]?.getD 0).toNat) else none)=_;rw[if_pos ⟨by omega,by rw[h1];omega⟩,bD];simp only at h3;rw[h3]
theorem mG{x s k:Nat}(hk:k=j9 (x/2^s))(h:0<x/2^s):x<2^(k+s)∧2^(k+s)≤2*x:=by
 subst hk;have h1:=zv (x/2^s);have h2:=vn h;have hp:0<2^s:=Nat.pow_pos (by omega);rw[Nat.pow_add];constructor
 ·have:=(Nat.div_lt_iff_lt_mul hp).1 h1;exact this
 ·calc 2^j9 (x/2^s)*2^s≤2*(x/2^s)*2^s:=iz _ h2
    _=2*(x/2^s*2^s):=by rw[Nat.mul_assoc]
    _≤2*x:=Nat.mul_le_mul_left _ (Nat.div_mul_le_self x (2^s))
theorem ie{x:Nat}(hx:x<256):j9 x≤8:=by
 rcases mS x with e|e
 ·subst e;decide
 ·have h:=vn e;rcases oV 8 (j9 x) with h1|h1
  ·have:=Nat.pow_le_pow_right (n:=2) (by omega) h1;omega
  ·exact h1
theorem e9{x:Int}(h:0≤x)(h2:x<18446744073709551616):IntKind.wrap .u64 x=x:=by
 simp only[IntKind.bits,IntKind.wrap,IntKind.signed];simp;omega
theorem ol{x:Int}(h:0≤x)(h2:x<256):IntKind.wrap .u8 x=x:=by
 simp only[IntKind.bits,IntKind.wrap,IntKind.signed];simp;omega
def xr(a b:Int):Int:=IntKind.wrap .u64 (BitVec.ofInt 64 a ^^^ BitVec.ofInt 64 b).toNat
def BA(a:Int):Int:=IntKind.wrap .u64 (a*2^13)
def B7(a:Int):Int:=IntKind.wrap .u64 (a*2^17)
def sr7(a:Int):Int:=a.fdiv (2^7)
theorem SX:(∀a b:Int,bb .xor false false (.int .u64 a) (.int .u64 b)=some (.int .u64 (xr a b)))∧(∀a:Int,bb .shl false false (.int .u64 a) (.int .u64 13)=some (.int .u64 (BA a)))∧
    (∀a:Int,bb .shl false false (.int .u64 a) (.int .u64 17)=some (.int .u64 (B7 a)))∧(∀a:Int,bb .shr false false (.int .u64 a) (.int .u64 7)=some (.int .u64 (sr7 a))):=
 ⟨fun _ _=>rfl,fun _=>rfl,fun _=>rfl,fun _=>rfl⟩
attribute [irreducible] xr BA B7 sr7
attribute [local irreducible] aG al bh a7 aV aU aB aX a9 bt Go.Abs.Fn aZ Go.Abs.Pure ax aO Yl
theorem xI{H:Hp}{c nx:Nat}{s:Int}(hcc:H c=some [.int .u64 s]):Abs.Fn Tryz.prog 119 [.ptr c 1 0] H nx fun r H' nx'=>nx'=nx∧∃s':Int,r=.int .u64 s'∧H'=am H c [.int .u64 s']:=by
 refine fO Co ?_;simp only[BC,ay];have ls:∀x y:AV,bv [x] 0 [y]=[y]:=fun _ _=>rfl;simp only[bv,de,dF,bQ] at ls;have zz:=aI @hcc (aI @SV3 (aI @SX @ls));repeat' (first|refine zW ?_|apply a_n|refine zO ?_|refine vZ ?_|refine stZ ?_|refine ae rfl ?_|refine r1Z ?_|fail)
 exact⟨rfl,_,rfl,by rw[ao,ao];rfl⟩
set_option maxRecDepth 100000 in
theorem qQ{H:Hp}{nx x:Nat}(hx:0<x)(h2:x<4294967296):Abs.Fn Tryz.prog 95 [.int .u64 x] H nx fun r H' nx'=>nx'=nx∧H'=H∧∃k:Nat,r=.int .i64 k∧x<2^k∧2^k≤2*x:=by
 refine fO pg ?_;simp only[b95,ay];generalize hT:AV.str (ByteArray.mk (Array.mk [0,1,2,2,3,3,3,3,4,4,4,4,4,4,4,4,5,5,5,5,5,5,5,5,5,5,5,5,5,5,5,5,6,6,6,6,6,6,6,6,6,6,6,6,6,6,6,6,6,6,6,6,6,6,6,6,6,6,6,6,6,6,6,6,7,7,7,7,7,7,7,7,7,7,7,7,7,7,7,7,7,7,7,7,7,7,7,7,7,7,7,7,7,7,7,7,7,7,7,7,7,7,7,7,7,7,7,7,7,7,7,7,7,7,7,7,7,7,7,7,7,7,7,7,7,7,7,7,8,8,8,8,8,8,8,8,8,8,8,8,8,8,8,8,8,8,8,8,8,8,8,8,8,8,8,8,8,8,8,8,8,8,8,8,8,8,8,8,8,8,8,8,8,8,8,8,8,8,8,8,8,8,8,8,8,8,8,8,8,8,8,8,8,8,8,8,8,8,8,8,8,8,8,8,8,8,8,8,8,8,8,8,8,8,8,8,8,8,8,8,8,8,8,8,8,8,8,8,8,8,8,8,8,8,8,8,8,8,8,8,8,8,8,8,8,8,8,8,8,8,8,8,8,8,8,8]))=tb;have htab:∀x:Nat,x<256→jT tb (.int .u8 (x:Nat))=some (.int .u8 (j9 x:Nat)):=fun x hx=>by rw[←hT];exact sC hx
 clear hT;have s16:∀z:Nat,bb .shr false false (.int .u64 (z:Nat)) (.int .u64 16)=some (.int .u64 ((z/2^16:Nat):Int)):=fun z=>uA (b:=16) (k:=.u64) (k':=.u64) (by decide);have s8:∀z:Nat,bb .shr false false (.int .u64 (z:Nat)) (.int .u64 8)=some (.int .u64 ((z/2^8:Nat):Int)):=fun z=>uA (b:=8) (k:=.u64) (k':=.u64) (by decide);by_cases h16:65536≤x
 ·obtain⟨y,hy⟩:∃y,x/2^16=y:=⟨_,rfl⟩
  have hy1:0<y:=by omega
  have hy2:y<65536:=by omega
  by_cases h8:256≤y
  ·obtain⟨z,hz⟩:∃z,y/2^8=z:=⟨_,rfl⟩
   have hz1:0<z:=by omega
   have hz2:z<256:=by omega
   have hl:=ie hz2;have w8:IntKind.wrap .u8 (z:Int)=z:=ol (by omega) (by omega);have ht:=htab z hz2;have zz:=aI @s16 (aI @s8 (aI @hy (aI @hz (aI @w8 @ht))));repeat' (first|refine zW ?_|apply a_n|refine zO ?_|refine vZ ?_|(refine zGZ ?_ ?_<;>(intro _hg;try (exfalso;omega)))|refine ae rfl ?_|refine r1Z ?_|fail)
   have e:x/2^24=z:=by rw[←hz,←hy,Nat.div_div_eq_div_mul]
   exact⟨rfl,rfl,j9 z+24,by congr 1;omega,mG (by rw[e]) (by omega)⟩
  ·have hl:=ie (x:=y) (by omega);have w8:IntKind.wrap .u8 (y:Int)=y:=ol (by omega) (by omega);have ht:=htab y (by omega);have zz:=aI @s16 (aI @s8 (aI @hy (aI @w8 @ht)));repeat' (first|refine zW ?_|apply a_n|refine zO ?_|refine vZ ?_|(refine zGZ ?_ ?_<;>(intro _hg;try (exfalso;omega)))|refine ae rfl ?_|refine r1Z ?_|fail)
   exact⟨rfl,rfl,j9 y+16,by congr 1;omega,mG (by rw[hy]) (by omega)⟩
 ·by_cases h8:256≤x
  ·obtain⟨z,hz⟩:∃z,x/2^8=z:=⟨_,rfl⟩
   have hz1:0<z:=by omega
   have hz2:z<256:=by omega
   have hl:=ie hz2;have w8:IntKind.wrap .u8 (z:Int)=z:=ol (by omega) (by omega);have ht:=htab z hz2;have zz:=aI @s16 (aI @s8 (aI @hz (aI @w8 @ht)));repeat' (first|refine zW ?_|apply a_n|refine zO ?_|refine vZ ?_|(refine zGZ ?_ ?_<;>(intro _hg;try (exfalso;omega)))|refine ae rfl ?_|refine r1Z ?_|fail)
   exact⟨rfl,rfl,j9 z+8,by congr 1;omega,mG (by rw[hz]) (by omega)⟩
  ·have hl:=ie (x:=x) (by omega);have w8:IntKind.wrap .u8 (x:Int)=x:=ol (by omega) (by omega);have ht:=htab x (by omega);have zz:=aI @w8 @ht;repeat' (first|refine zW ?_|apply a_n|refine zO ?_|refine vZ ?_|(refine zGZ ?_ ?_<;>(intro _hg;try (exfalso;omega)))|refine ae rfl ?_|refine r1Z ?_|fail)
   exact⟨rfl,rfl,j9 x+0,by congr 1;omega,mG (s:=0) (by simp) (by simpa using hx)⟩
theorem sM{H:Hp}{nx x:Nat}(hx:0<x)(h2:x<4294967296):Abs.Fn Tryz.prog 71 [.int .u64 x] H nx fun r H' nx'=>nx'=nx∧H'=H∧∃k:Nat,r=.int .i64 k∧x<2^k∧2^k≤2*x:=by
 refine fO As ?_;simp only[b71,ay]
 repeat' (first|refine zW ?_|apply a_n|refine zO ?_|refine vZ ?_|refine cFZ ?_|fail)
 refine aJ ev0 ev0 (qQ hx h2) ?_;rintro _ _ _ ⟨rfl,rfl,k,rfl,h3,h4⟩
 repeat' (first|apply a_n|refine zO ?_|refine vZ ?_|refine ae rfl ?_|refine r1Z ?_|fail)
 exact⟨rfl,rfl,k,rfl,h3,h4⟩
theorem xn{H:Hp}{nx x:Nat}(hx:0<x)(h2:x≤1000000000):Abs.Fn Tryz.prog 118 [.int .i64 x] H nx fun r H' nx'=>nx'=nx∧H'=H∧∃k:Nat,r=.int .u64 ((2^k:Nat):Int)∧x<2^k∧2^k≤2*x:=by
 have w:IntKind.wrap .u64 (x:Int)=x:=e9 (by omega) (by omega);refine fO Cv ?_;simp only[Bj,ay];have zz:=@w;repeat' (first|refine zW ?_|apply a_n|refine zO ?_|refine vZ ?_|fail)
 refine aJ ev0 (have zz:=@w;evZ) (sM hx (by omega)) ?_;rintro _ _ _ ⟨rfl,rfl,k,rfl,h3,h4⟩
 have hk:k≤62:=by
  rcases oV 62 k with h|h
  ·have:=Nat.pow_le_pow_right (n:=2) (by omega) h;omega
  ·exact h
 have sh:bb .shl false false (.int .u64 1) (.int .i64 (k:Int))=some (.int .u64 ((2^k:Nat):Int)):=by
  have h:=yU (k:=.u64) (k':=.i64) (a:=1) (b:=k) (tb:=false) (tf:=false) (by show k≤64;omega) (by show 1*2^k<2^63;omega);rw[Nat.one_mul] at h;exact h
 clear zz;have zz:=@sh;repeat' (first|apply a_n|refine zO ?_|refine vZ ?_|refine ae rfl ?_|refine r1Z ?_|fail)
 exact⟨rfl,rfl,k,rfl,h3,h4⟩
end Go.Proofs.YtcbkggfipdldaaaGreat