/- Texts of this claim, one after the other: Code, U1, T100, T101, T102, T103, T104, T105, T108, U2s, U3s, U4s, U5s, U6s, U7s, U8s, U9s, U10s, U11s. -/
import Derived.Test.YtekdaafnjdlenaaGreatProg
import Derived.Test.YtekdaafnjdlenaaGreatXG3
import Derived.KernelRfl

set_option linter.unusedSimpArgs false
set_option linter.unusedVariables false
set_option maxHeartbeats 1000000
namespace Go.Proofs.YtekdaafnjdlenaaGreat
open Go Go.Abs Go.Abs.C2 Go.Abs.Ins Go.Abs.Opd Go.Abs.TK Go.Abs.MK
def cO (d:Nat) (i:Ins):Op2:=Op2.mk (some d) none i
def cG (d g:Nat) (b:Bool) (i:Ins):Op2:=Op2.mk (some d) (some (g,b)) i
def cN (k:Int):Opd:=Opd.c (AV.int IntKind.i64 k)
def cM (n:Nat):Ins:=Ins.mov (Opd.t n)
def cD (n:Nat):Ins:=Ins.ld1 (Opd.t n)
def cF (n:Nat):Opd:=Opd.c (AV.func n [])
def cB (o:BinOp) (x y:Opd):Ins:=Ins.bin o false false x y
def bm:Opd:=Opd.c (AV.bool false)
def d6:Opd:=Opd.c (AV.bool true)
def aa (d s:Nat):Op2:=Op2.mk (some d) none (Ins.mov (Opd.t s))
def aF (d s:Nat):Op2:=Op2.mk (some d) none (Ins.ld1 (Opd.t s))
def bP (d n s:Nat):Op2:=Op2.mk (some d) none (Ins.ldn n (Opd.t s))
def bj (d s:Nat):Op2:=Op2.mk (some d) none (Ins.lenS (Opd.t s))
def bW (d n s:Nat):Op2:=Op2.mk (some d) none (Ins.fa n (Opd.t s))
def bI (d s n:Nat):Op2:=Op2.mk (some d) none (Ins.ext (Opd.t s) n)
def a6 (d f:Nat) (l:List Opd):Op2:=Op2.mk (some d) none (Ins.call (Opd.c (AV.func f [])) l)
def aO (d:Nat) (o:BinOp) (x y:Nat):Op2:=Op2.mk (some d) none (Ins.bin o false false (Opd.t x) (Opd.t y))
def aq (d:Nat) (o:BinOp) (x:Nat) (y:Int):Op2:=Op2.mk (some d) none (Ins.bin o false false (Opd.t x) (Opd.c (AV.int IntKind.i64 y)))
def bG (n p v:Nat):Op2:=Op2.mk none none (Ins.st n (Opd.t p) (Opd.t v))
def bX (d g:Nat) (i:Ins):Op2:=Op2.mk (some d) (some (g,false)) i
def ap (d g:Nat) (i:Ins):Op2:=Op2.mk (some d) (some (g,true)) i
def au (n:Nat) (x y:C2):C2:=C2.cond (Opd.t n) x y
def ac (l:List Op2) (x:C2):C2:=C2.seq (C2.ops 0 l) x
def bt:AV:=AV.int IntKind.i64 0
theorem aJ:(∀ (d:Nat) (i:Ins),cO d i=Op2.mk (some d) none i)∧(∀ (d g:Nat) (b:Bool) (i:Ins),cG d g b i=Op2.mk (some d) (some (g,b)) i)∧(∀ (k:Int),cN k=Opd.c (AV.int IntKind.i64 k))∧(∀ (n:Nat),cM n=Ins.mov (Opd.t n))∧(∀ (n:Nat),cD n=Ins.ld1 (Opd.t n))∧(∀ (n:Nat),cF n=Opd.c (AV.func n []))∧(∀ (o:BinOp) (x y:Opd),cB o x y=Ins.bin o false false x y)∧(bm=Opd.c (AV.bool false))∧(d6=Opd.c (AV.bool true))∧(∀ (d s:Nat),aa d s=Op2.mk (some d) none (Ins.mov (Opd.t s)))∧(∀ (d s:Nat),aF d s=Op2.mk (some d) none (Ins.ld1 (Opd.t s)))∧(∀ (d n s:Nat),bP d n s=Op2.mk (some d) none (Ins.ldn n (Opd.t s)))∧(∀ (d s:Nat),bj d s=Op2.mk (some d) none (Ins.lenS (Opd.t s)))∧(∀ (d n s:Nat),bW d n s=Op2.mk (some d) none (Ins.fa n (Opd.t s)))∧(∀ (d s n:Nat),bI d s n=Op2.mk (some d) none (Ins.ext (Opd.t s) n))∧(∀ (d f:Nat) (l:List Opd),a6 d f l=Op2.mk (some d) none (Ins.call (Opd.c (AV.func f [])) l))∧(∀ (d:Nat) (o:BinOp) (x y:Nat),aO d o x y=Op2.mk (some d) none (Ins.bin o false false (Opd.t x) (Opd.t y)))∧(∀ (d:Nat) (o:BinOp) (x:Nat) (y:Int),aq d o x y=Op2.mk (some d) none (Ins.bin o false false (Opd.t x) (Opd.c (AV.int IntKind.i64 y))))∧(∀ (n p v:Nat),bG n p v=Op2.mk none none (Ins.st n (Opd.t p) (Opd.t v)))∧(∀ (d g:Nat) (i:Ins),bX d g i=Op2.mk (some d) (some (g,false)) i)∧(∀ (d g:Nat) (i:Ins),ap d g i=Op2.mk (some d) (some (g,true)) i)∧(∀ (n:Nat) (x y:C2),au n x y=C2.cond (Opd.t n) x y)∧(∀ (l:List Op2) (x:C2),ac l x=C2.seq (C2.ops 0 l) x)∧(bt=AV.int IntKind.i64 0):=⟨fun _ _=>rfl,fun _ _ _ _=>rfl,fun _=>rfl,fun _=>rfl,fun _=>rfl,fun _=>rfl,fun _ _ _=>rfl,rfl,rfl,fun _ _=>rfl,fun _ _=>rfl,fun _ _ _=>rfl,fun _ _=>rfl,fun _ _ _=>rfl,fun _ _ _=>rfl,fun _ _ _=>rfl,fun _ _ _ _=>rfl,fun _ _ _ _=>rfl,fun _ _ _=>rfl,fun _ _ _=>rfl,fun _ _ _=>rfl,fun _ _ _=>rfl,fun _ _=>rfl,rfl⟩
theorem mkI {P:Program} {f:FuncId} {F:F2} {fn:Func} (h1:P.funcs[f]?=some fn) (h2:tM P fn=some F:=by kernel_rfl):Is P f F:=Is.mk' h1 h2
theorem follows:Tryz.prog.follows .mixedOrders=true:=by rfl
abbrev pU:=@Go.Abs.Pure Tryz.prog
theorem pO {f:FuncId} {F:F2} {args:List AV} {r:AV} (hf:Is Tryz.prog f F) (hb:aA Tryz.prog F.body (T0 args) bA 0 fun e T H nx=>aL e.ends (bd T H (fun x=>Snap H x r) F.res)) (hl:args.length ≤ F.n:=by exact Nat.le_of_ble_eq_true rfl):Go.Abs.Pure Tryz.prog f args r:=Go.Abs.Pure.of_c2 follows hf hl hb
theorem fO {f:FuncId} {F:F2} {args:List AV} {H:Hp} {nx:Nat} {K:AV→Hp→Nat→Prop} (hf:Is Tryz.prog f F) (hb:aA Tryz.prog F.body (T0 args) H nx fun e T H nx=>aL e.ends (bd T H (fun x=>K x H nx) F.res)) (hl:args.length ≤ F.n:=by exact Nat.le_of_ble_eq_true rfl):Go.Abs.Fn Tryz.prog f args H nx K:=Go.Abs.Fn.of_c2 follows hf hl hb
theorem qO {f:FuncId} {F:F2} {args:List AV} {r:AV} (hf:Is Tryz.prog f F) (hb:aA Tryz.prog F.body (T0 args) bA 0 fun e T H nx=>aL e.ends (bd T H (fun x=>SnapF H x r) F.res)) (hl:args.length ≤ F.n:=by exact Nat.le_of_ble_eq_true rfl):Go.Abs.PureF Tryz.prog f args r:=Go.Abs.PureF.of_c2 follows hf hl hb
def b3:F2:=(F2.mk 60 [RV.t 4] (ac [cO 2 (box (t 0)),cO 4 (mov bm)] ((ac [bP 13 1 2,a6 14 11 [t 13,c AV.esl],cO 15 (un UnOp.not (t 14))] (au 15 (ac [a6 16 12 [],aa 4 16] ret) skip)).seq (ac [bP 18 1 2,a6 19 13 [t 18],aa 17 19,bI 20 17 0,bI 21 17 1,aa 5 20,aa 6 21] (ac [bP 23 1 2,a6 24 14 [t 23],aa 22 24,bI 25 22 0,bI 26 22 1,aa 7 25,aa 8 26] (ac [bP 28 1 2,aa 29 1,a6 30 15 [t 28,t 29],aa 27 30,bI 31 27 0,bI 32 27 1,aa 9 31,aa 10 32] (ac [bP 34 1 2,aa 35 1,a6 36 16 [t 34,t 35],aa 33 36,bI 37 33 0,bI 38 33 1,aa 11 37,aa 12 38] (ac [a6 39 12 [],aa 40 39,ap 41 40 (cM 5),ap 42 40 (cM 7),ap 43 40 (call (cF 17) [t 41,t 42]),cO 44 (pick (t 40) (t 43) bm),aa 45 44,ap 46 45 (cM 6),ap 47 45 (cM 8),ap 48 45 (cB .eql (t 46) (t 47)),cO 49 (pick (t 45) (t 48) bm),aa 50 49,ap 51 50 (cM 9),ap 52 50 (cM 11),ap 53 50 (bin BinOp.eql true false (t 51) (t 52)),cO 54 (pick (t 50) (t 53) bm),aa 55 54,ap 56 55 (cM 10),ap 57 55 (cM 12),ap 58 55 (cB .eql (t 56) (t 57)),cO 59 (pick (t 55) (t 58) bm),aa 4 59] ret))))))))
theorem is3:Is Tryz.prog 3 b3:=mkI Tryz.func3
def b11:F2:=(F2.mk 40 [RV.t 4] (ac [cO 2 (box (t 0)),cO 4 (mov bm)] ((ac [aa 10 1,bj 11 10,cO 12 (mov (cN 0))] (block 0 (ac [aO 13 .lss 12 11] ((au 13 skip (exit 0)).seq ((block 1 (ac [cO 14 (ixaS 1 (t 10) (t 12)),aF 15 14,aa 6 15] (ac [aa 16 6,a6 17 40 [t 16],cO 18 (un UnOp.not (t 17))] (au 18 (ac [cO 4 (mov bm)] ret) skip)))).seq (ops 0 [aq 19 .add 12 1,aa 12 19])))).loop)).seq (ac [cO 7 (mov (cN 0))] ((ac [bW 20 0 2,aF 21 20,bj 22 21,cO 23 (mov (cN 0))] (block 2 (ac [aO 24 .lss 23 22] ((au 24 skip (exit 2)).seq ((block 3 (ac [cO 25 (ixaS 1 (t 21) (t 23)),aF 26 25,aa 9 26] (ops 0 [aa 27 7,aa 28 9,bj 29 28,cO 30 (mn (t 29) [cN ((10))]),cO 31 (cB .shl (cN 1) (t 30)),aO 32 .add 27 31,aa 7 32]))).seq (ops 0 [aq 33 .add 23 1,aa 23 33])))).loop)).seq (ac [bP 34 1 2,a6 35 41 [t 34],aa 36 35,ap 37 36 (cM 7),ap 38 36 (cB .leq (t 37) (cN 400)),cO 39 (pick (t 36) (t 38) bm),aa 4 39] ret))))))
theorem HN:Is Tryz.prog 11 b11:=mkI Tryz.func11
def b13:F2:=(F2.mk 14 [RV.t 2,RV.t 3] (ac [cO 1 (box (t 0)),cO 2 (mov (c AV.esl)),cO 3 (mov (cN 0))] ((ac [bP 5 1 1,a6 6 43 [t 5],aa 4 6] (ac [aa 7 4,aq 8 .neq 7 0] (au 8 (ac [aa 9 4,cO 2 (mov (c AV.esl)),aa 3 9] ret) skip))).seq (ac [bP 10 1 1,a6 11 44 [t 10],bI 12 11 0,bI 13 11 1,aa 2 12,aa 3 13] ret))))
theorem FO:Is Tryz.prog 13 b13:=mkI Tryz.func13
def b14:F2:=(F2.mk 31 [RV.t 2,RV.t 3] (ac [cO 1 (box (t 0)),cO 2 (mov (c AV.esl)),cO 3 (mov (cN 0))] ((ac [bP 9 1 1,a6 10 45 [t 9],aa 4 10] (ac [aa 11 4,aq 12 .neq 11 0] (au 12 (ac [aa 13 4,cO 2 (mov (c AV.esl)),aa 3 13] ret) skip))).seq (ac [bP 15 1 1,a6 16 46 [t 15],aa 14 16,bI 17 14 0,bI 18 14 1,aa 5 17,aa 6 18] (ac [cO 7 (mov (c AV.esl))] ((ac [cO 8 (mov (cN 0))] (block 0 ((ac [aa 19 8,aa 20 5,aO 21 .leq 19 20] (au 21 skip (exit 0))).seq ((block 1 (ops 0 [aa 24 7,bP 25 1 1,aa 26 8,a6 27 47 [t 25,t 26],cO 28 (bldS 1 1 [bt] [(0,1,t 27)]),cO 29 (app 1 8 (t 24) (t 28)),aa 7 29])).seq (ops 0 [aa 22 8,aq 23 .add 22 1,aa 8 23]))).loop)).seq (ac [aa 30 7,aa 2 30,cO 3 (mov (cN 0))] ret)))))))
theorem Gb:Is Tryz.prog 14 b14:=mkI Tryz.func14
def b15:F2:=(F2.mk 47 [RV.t 4,RV.t 5] (ac [cO 2 (box (t 0)),cO 4 (mov bm),cO 5 (mov (cN 0))] ((ac [bP 9 1 2,a6 10 43 [t 9],aa 6 10] (ac [aa 11 6,aq 12 .neq 11 0] (au 12 (ac [aa 13 6,cO 4 (mov bm),aa 5 13] ret) skip))).seq ((ac [aa 14 1,cO 15 (cB .lss (t 14) (cN ((-1)))),aa 16 15,bX 17 16 (cM 1),bX 18 16 (cB .geq (t 17) (cN 8)),cO 19 (pick (t 16) d6 (t 18))] (au 19 (ac [cO 4 (mov bm),cO 5 (mov (cN 2))] ret) skip)).seq (ac [bP 21 1 2,a6 22 44 [t 21],aa 20 22,bI 23 20 0,bI 24 20 1,aa 7 23,aa 8 24] ((ac [aa 25 8,aq 26 .neq 25 0,aa 27 26,bX 28 27 (cM 7),bX 29 27 (lenS (t 28)),bX 30 27 (cB .eql (t 29) (cN 0)),cO 31 (pick (t 27) d6 (t 30))] (au 31 (ac [aa 32 8,cO 4 (mov bm),aa 5 32] ret) skip)).seq (ac [aa 33 7,cO 34 (ixaS 1 (t 33) (cN 0)),aF 35 34,aq 36 .sub 35 1,cO 37 (ixaS 1 (t 33) (cN 0)),bG 1 37 36] (ac [aa 38 7,aa 39 1,aq 40 .add 39 1,aa 41 7,bj 42 41,cO 43 (mn (t 40) [t 42]),cO 44 (sls 1 (t 38) none (some (t 43)) none),a6 45 48 ([t 44,c (AV.func 49 [])]),cO 46 (un UnOp.not (t 45)),aa 4 46,cO 5 (mov (cN 0))] ret))))))))
theorem FM:Is Tryz.prog 15 b15:=mkI Tryz.func15
def b16:F2:=(F2.mk 41 [RV.t 4,RV.t 5] (ac [cO 2 (box (t 0)),cO 4 (mov bm),cO 5 (mov (cN 0))] ((ac [bP 8 1 2,a6 9 45 [t 8],aa 6 9] (ac [aa 10 6,aq 11 .neq 10 0] (au 11 (ac [aa 12 6,cO 4 (mov bm),aa 5 12] ret) skip))).seq ((ac [aa 13 1,cO 14 (cB .lss (t 13) (cN ((-1)))),aa 15 14,bX 16 15 (cM 1),bX 17 15 (cB .geq (t 16) (cN 8)),cO 18 (pick (t 15) d6 (t 17))] (au 18 (ac [cO 4 (mov bm),cO 5 (mov (cN 2))] ret) skip)).seq ((ac [bW 19 0 2,aF 20 19,bj 21 20,aq 22 .eql 21 0,aa 23 22,bX 24 23 (cM 1),bX 25 23 (cB .geq (t 24) (cN 0)),bX 26 23 (cM 25),ap 27 26 (ldn 1 (t 2)),ap 28 26 (call (cF 47) [t 27,cN ((0))]),ap 29 26 (cB .neq (t 28) (cN 1)),bX 30 23 (pick (t 26) (t 29) bm),cO 31 (pick (t 23) d6 (t 30))] (au 31 (ac [cO 4 (mov bm),cO 5 (mov (cN 0))] ret) skip)).seq ((ac [cO 7 (mov (cN 1))] (block 0 ((ac [aa 32 7,aa 33 1,aO 34 .leq 32 33] (au 34 skip (exit 0))).seq ((block 1 (ac [bP 37 1 2,aa 38 7,a6 39 47 [t 37,t 38],aq 40 .neq 39 0] (au 40 (ac [cO 4 (mov bm),cO 5 (mov (cN 0))] ret) skip))).seq (ops 0 [aa 35 7,aq 36 .add 35 1,aa 7 36]))).loop)).seq (ac [cO 4 (mov d6),cO 5 (mov (cN 0))] ret)))))))
theorem FN:Is Tryz.prog 16 b16:=mkI Tryz.func16
def b17:F2:=(F2.mk 26 [RV.t 4] (ac [cO 4 (mov bm)] ((ac [aa 6 0,bj 7 6,aa 8 1,bj 9 8,aO 10 .neq 7 9] (au 10 (ac [cO 4 (mov bm)] ret) skip)).seq ((ac [aa 11 0,bj 12 11,cO 13 (mov (cN 0))] (block 0 (ac [aO 14 .lss 13 12] ((au 14 skip (exit 0)).seq ((block 1 (ac [aa 15 13,aa 5 15] ((ops 1 [aa 16 0,aa 17 5,cO 18 (ixaS 1 (t 16) (t 17)),aF 19 18,aa 20 1,aa 21 5,cO 22 (ixaS 1 (t 20) (t 21)),aF 23 22,aO 24 .neq 19 23]).seq (au 24 (ac [cO 4 (mov bm)] ret) skip)))).seq (ops 0 [aq 25 .add 13 1,aa 13 25])))).loop)).seq (ac [cO 4 (mov d6)] ret)))))
theorem HR:Is Tryz.prog 17 b17:=mkI Tryz.func17
def b28:F2:=(F2.mk 68 [RV.t 2] (ac [cO 1 (box (t 0)),cO 2 (mov (cN 0))] (ac [bW 8 0 1,aF 9 8,aa 3 9] ((ac [aa 10 3,bj 11 10,aq 12 .gtr 11 4096] (au 12 (ac [cO 2 (mov (cN 5))] ret) skip)).seq ((ac [cO 4 (mov (cN 0))] (block 0 ((ac [aa 13 4,aa 14 3,bj 15 14,aO 16 .lss 13 15] (au 16 skip (exit 0))).seq ((block 1 ((ac [aa 19 3,aa 20 4,cO 21 (ixaS 1 (t 19) (t 20)),aF 22 21,a6 23 72 [t 22],aa 5 23] (ac [aa 24 5,aq 25 .neq 24 0] (au 25 (ac [aa 26 5,aa 2 26] ret) skip))).seq ((mixS 1 [aa 27 4,aq 28 .gtr 27 0,aa 29 28,ap 30 29 (cM 3),ap 31 29 (cM 4),ap 32 29 (cB .sub (t 31) (cN 1)),ap 33 29 (ixaS 1 (t 30) (t 32)),ap 34 29 (cD 33),ap 35 29 (cM 3),ap 36 29 (cM 4),ap 37 29 (ixaS 1 (t 35) (t 36)),ap 38 29 (cD 37),ap 39 29 (call (cF 73) [t 34,t 38]),ap 40 29 (cB .geq (t 39) (cN 0)),cO 41 (pick (t 29) (t 40) bm)] [(0,0),(1,0),(2,0),(3,0),(4,0),(5,0),(6,0),(7,0),(8,0),(9,0),(10,0),(11,0),(12,2),(13,0),(14,0)]).seq (au 41 (ac [cO 2 (mov (cN 14))] ret) skip)))).seq (ops 0 [aa 17 4,aq 18 .add 17 1,aa 4 18]))).loop)).seq ((ac [cO 6 (mov (cN 0))] (block 2 ((ac [aa 42 6,aa 43 3,bj 44 43,aO 45 .lss 42 44] (au 45 skip (exit 2))).seq ((block 3 (ac [cO 7 (mov (cN 0))] (block 4 ((ac [aa 48 7,aa 49 3,bj 50 49,aO 51 .lss 48 50] (au 51 skip (exit 4))).seq ((block 5 ((mixS 1 [aa 54 6,aa 55 7,aO 56 .neq 54 55,aa 57 56,ap 58 57 (cM 3),ap 59 57 (cM 6),ap 60 57 (ixaS 1 (t 58) (t 59)),ap 61 57 (cD 60),ap 62 57 (cM 3),ap 63 57 (cM 7),ap 64 57 (ixaS 1 (t 62) (t 63)),ap 65 57 (cD 64),ap 66 57 (call (cF 74) [t 61,t 65]),cO 67 (pick (t 57) (t 66) bm)] [(0,0),(1,0),(2,0),(3,0),(4,0),(5,0),(6,0),(7,0),(8,0),(9,0),(10,0),(11,0),(12,2),(13,0)]).seq (au 67 (ac [cO 2 (mov (cN 7))] ret) skip))).seq (ops 0 [aa 52 7,aq 53 .add 52 1,aa 7 53]))).loop))).seq (ops 0 [aa 46 6,aq 47 .add 46 1,aa 6 47]))).loop)).seq (ac [cO 2 (mov (cN 0))] ret)))))))
theorem Hw:Is Tryz.prog 28 b28:=mkI Tryz.func28
def b37:F2:=(F2.mk 40 [RV.t 2,RV.t 3] (ac [cO 1 (box (t 0)),cO 2 (mov (cN 0)),cO 3 (mov (cN 0))] ((ac [bP 9 1 1,a6 10 78 [t 9],aa 4 10] (ac [aa 11 4,aq 12 .neq 11 0] (au 12 (ac [aa 13 4,cO 2 (mov (cN 0)),aa 3 13] ret) skip))).seq (ac [cO 5 (mov (cN 0))] ((ac [cO 6 (mov (cN 1))] (block 0 ((ac [aa 14 6,aq 15 .leq 14 8] (au 15 skip (exit 0))).seq ((block 1 (ac [bW 19 0 1,aF 20 19,aa 21 6,a6 22 87 [t 20,t 21],aa 18 22,bI 23 18 0,bI 24 18 1,aa 7 23,aa 8 24] ((ac [aa 25 8,aq 26 .neq 25 0] (au 26 (ac [aa 27 8,cO 2 (mov (cN 0)),aa 3 27] ret) skip)).seq (ac [aa 28 6,aq 29 .rem 28 2,aq 30 .eql 29 1] (au 30 (ops 0 [aa 31 5,aa 32 7,bj 33 32,aO 34 .add 31 33,aa 5 34]) (ops 0 [aa 35 5,aa 36 7,bj 37 36,aO 38 .sub 35 37,aa 5 38])))))).seq (ops 0 [aa 16 6,aq 17 .add 16 1,aa 6 17]))).loop)).seq (ac [aa 39 5,aa 2 39,cO 3 (mov (cN 0))] ret))))))
theorem FD:Is Tryz.prog 37 b37:=mkI Tryz.func37
def b40:F2:=(F2.mk 28 [RV.t 2] (ac [cO 2 (mov bm)] ((ac [cO 3 (mov (cN 0))] (block 0 ((ac [aa 4 3,aa 5 0,bj 6 5,aO 7 .lss 4 6,aa 8 7,ap 9 8 (cM 3),ap 10 8 (cB .lss (t 9) (cN 50)),cO 11 (pick (t 8) (t 10) bm)] (au 11 skip (exit 0))).seq ((block 1 (ac [aa 14 0,aa 15 3,cO 16 (ixaS 1 (t 14) (t 15)),aF 17 16,bj 18 17,aq 19 .gtr 18 10] (au 19 (ac [cO 2 (mov bm)] ret) skip))).seq (ops 0 [aa 12 3,aq 13 .add 12 1,aa 3 13]))).loop)).seq (ac [aa 20 0,bj 21 20,aq 22 .leq 21 40,aa 23 22,bX 24 23 (cM 0),bX 25 23 (lenS (t 24)),bX 26 23 (cB .gtr (t 25) (cN 4096)),cO 27 (pick (t 23) d6 (t 26)),aa 2 27] ret))))
theorem HM:Is Tryz.prog 40 b40:=mkI Tryz.func40
def b41:F2:=(F2.mk 6 [RV.t 2] (ac [cO 1 (box (t 0)),cO 2 (mov bm)] (ac [bW 3 0 1,aF 4 3,a6 5 95 [t 4],aa 2 5] ret)))
theorem HZ:Is Tryz.prog 41 b41:=mkI Tryz.func41
def b43:F2:=(F2.mk 11 [RV.t 2] (ac [cO 1 (box (t 0)),cO 2 (mov (cN 0))] (ac [bP 6 1 1,a6 7 37 [t 6],aa 5 7,bI 8 5 0,bI 9 5 1,aa 3 8,aa 4 9] (ac [aa 10 4,aa 2 10] ret))))
theorem DS:Is Tryz.prog 43 b43:=mkI Tryz.func43
def b44:F2:=(F2.mk 79 [RV.t 2,RV.t 3] (ac [cO 1 (box (t 0)),cO 2 (mov (c AV.esl)),cO 3 (mov (cN 0))] (ac [bP 16 1 1,a6 17 96 [t 16],aa 15 17,bI 18 15 0,bI 19 15 1,bI 20 15 2,aa 4 18,aa 5 19,aa 6 20] ((ac [aa 21 6,aq 22 .neq 21 0] (au 22 (ac [aa 23 6,cO 2 (mov (c AV.esl)),aa 3 23] ret) skip)).seq (ac [cO 24 (mkm none),aa 7 24] ((ac [aa 25 4,aq 26 .add 25 2,cO 27 (mov (cN 0))] (block 0 (ac [aO 28 .lss 27 26] ((au 28 skip (exit 0)).seq ((block 1 (ac [aa 29 27,aa 8 29] (ac [bP 31 1 1,aa 32 8,a6 33 58 [t 31,t 32],aa 30 33,bI 34 30 0,bI 35 30 1,cO 9 (alloc (AV.agg [bt,AV.esl])),bG 2 9 34,aa 10 35] ((ac [aa 36 10,aq 37 .neq 36 0] (au 37 (ac [aa 38 10,cO 2 (mov (c AV.esl)),aa 3 38] ret) skip)).seq (ac [aa 40 7,aa 41 8,bP 42 2 9,a6 43 97 [t 42],aa 39 43,bI 44 39 0,bI 45 39 1,Op2.mk none none (mput (one int) (t 40) (t 41) (t 44)),aa 10 45] (ac [aa 46 10,aq 47 .neq 46 0] (au 47 (ac [aa 48 10,cO 2 (mov (c AV.esl)),aa 3 48] ret) skip))))))).seq (ops 0 [aq 49 .add 27 1,aa 27 49])))).loop)).seq (ac [cO 11 (mov (c AV.esl))] ((ac [aa 50 4,aq 51 .add 50 1,cO 52 (mov (cN 0))] (block 2 (ac [aO 53 .lss 52 51] ((au 53 skip (exit 2)).seq ((block 3 (ac [aa 54 52,aa 12 54] (ac [bP 56 1 1,aa 57 12,a6 58 98 [t 56,t 57],aa 55 58,bI 59 55 0,bI 60 55 1,aa 13 59,aa 14 60] ((ac [aa 61 14,aq 62 .neq 61 0] (au 62 (ac [aa 63 14,cO 2 (mov (c AV.esl)),aa 3 63] ret) skip)).seq (ops 0 [aa 64 11,aa 65 13,aa 66 7,aa 67 12,cO 68 (Ins.mget (one int) (bt) false (t 66) (t 67)),aO 69 .sub 65 68,aa 70 7,aa 71 12,aq 72 .add 71 1,cO 73 (Ins.mget (one int) (bt) false (t 70) (t 72)),aO 74 .sub 69 73,cO 75 (bldS 1 1 [bt] [(0,1,t 74)]),cO 76 (app 1 8 (t 64) (t 75)),aa 11 76]))))).seq (ops 0 [aq 77 .add 52 1,aa 52 77])))).loop)).seq (ac [aa 78 11,aa 2 78,cO 3 (mov (cN 0))] ret)))))))))
theorem Fm:Is Tryz.prog 44 b44:=mkI Tryz.func44
def b45:F2:=(F2.mk 25 [RV.t 2] (ac [cO 1 (box (t 0)),cO 2 (mov (cN 0))] ((ac [bP 7 1 1,a6 8 28 [t 7],aa 3 8] (ac [aa 9 3,aq 10 .neq 9 0] (au 10 (ac [aa 11 3,aa 2 11] ret) skip))).seq ((ac [cO 4 (mov (cN 1))] (block 0 ((ac [aa 12 4,aq 13 .leq 12 8] (au 13 skip (exit 0))).seq ((block 1 (ac [bP 17 1 1,aa 18 4,a6 19 99 [t 17,t 18],aa 16 19,bI 20 16 0,bI 21 16 1,aa 5 20,aa 6 21] (ac [aa 22 6,aq 23 .neq 22 0] (au 23 (ac [aa 24 6,aa 2 24] ret) skip)))).seq (ops 0 [aa 14 4,aq 15 .add 14 1,aa 4 15]))).loop)).seq (ac [cO 2 (mov (cN 0))] ret)))))
theorem Hz:Is Tryz.prog 45 b45:=mkI Tryz.func45
def b46:F2:=(F2.mk 38 [RV.t 2,RV.t 3] (ac [cO 1 (box (t 0)),cO 2 (mov (cN 0)),cO 3 (mov bm)] (ac [cO 4 (mov (cN ((-1)))),cO 5 (mov d6)] ((ac [cO 6 (mov (cN 0))] (block 0 ((ac [aa 8 6,bW 9 0 1,aF 10 9,bj 11 10,aO 12 .lss 8 11] (au 12 skip (exit 0))).seq ((block 1 (ac [bW 15 0 1,aF 16 15,aa 17 6,cO 18 (ixaS 1 (t 16) (t 17)),aF 19 18,bj 20 19,aq 21 .sub 20 1,aa 7 21] (ac [aa 22 5,aa 23 22,ap 24 23 (cM 6),ap 25 23 (cB .eql (t 24) (cN 0)),ap 26 23 (cM 25),bX 27 26 (cM 7),bX 28 26 (cM 4),bX 29 26 (cB .eql (t 27) (t 28)),ap 30 23 (pick (t 26) d6 (t 29)),cO 31 (pick (t 23) (t 30) bm),aa 5 31] (ac [aa 32 7,aa 33 4,aO 34 .gtr 32 33] (au 34 (ops 0 [aa 35 7,aa 4 35]) skip))))).seq (ops 0 [aa 13 6,aq 14 .add 13 1,aa 6 14]))).loop)).seq (ac [aa 36 4,aa 37 5,aa 2 36,aa 3 37] ret)))))
theorem HB:Is Tryz.prog 46 b46:=mkI Tryz.func46
def b47:F2:=(F2.mk 19 [RV.t 4] (ac [cO 2 (box (t 0)),cO 4 (mov (cN 0))] ((mixS 1 [bP 5 1 2,aa 6 1,aq 7 .add 6 1,a6 8 51 [t 5,t 7],bj 9 8,bP 10 1 2,aa 11 1,a6 12 100 [t 10,t 11],aO 13 .sub 9 12,bP 14 1 2,aa 15 1,aq 16 .add 15 1,a6 17 100 [t 14,t 16],aO 18 .sub 13 17,aa 4 18] [(0,0),(1,0),(2,0),(5,0),(6,0),(9,0),(10,0),(11,0),(3,1),(4,0),(7,1),(8,0),(12,2),(13,0),(14,0)]).seq ret)))
theorem Ic:Is Tryz.prog 47 b47:=mkI Tryz.func47
def b48:F2:=(F2.mk 9 [RV.t 4] (ac [cO 4 (mov bm)] (ac [aa 5 0,aa 6 1,a6 7 101 [t 5,t 6],aq 8 .geq 7 0,aa 4 8] ret)))
theorem Ig:Is Tryz.prog 48 b48:=mkI Tryz.func48
def b49:F2:=(F2.mk 5 [RV.t 2] (ac [cO 2 (mov bm)] (ac [aa 3 0,aq 4 .neq 3 0,aa 2 4] ret)))
theorem H6:Is Tryz.prog 49 b49:=mkI Tryz.func49
def b51:F2:=(F2.mk 44 [RV.t 4] (ac [cO 2 (box (t 0)),cO 4 (mov (c AV.esl))] (ac [cO 5 (mov (c AV.esl))] ((ac [cO 6 (mov (cN 0))] (block 0 ((ac [aa 9 6,bW 10 0 2,aF 11 10,bj 12 11,aO 13 .lss 9 12] (au 13 skip (exit 0))).seq ((block 1 ((ac [aa 16 1,bW 17 0 2,aF 18 17,aa 19 6,cO 20 (ixaS 1 (t 18) (t 19)),aF 21 20,bj 22 21,aO 23 .gtr 16 22] (au 23 (exit 1) skip)).seq (ac [bW 24 0 2,aF 25 24,aa 26 6,cO 27 (ixaS 1 (t 25) (t 26)),aF 28 27,aa 29 1,a6 30 104 [t 28,t 29],aa 7 30] (ac [cO 8 (mov (cN 0))] (block 2 ((ac [aa 31 8,aa 32 7,bj 33 32,aO 34 .lss 31 33] (au 34 skip (exit 2))).seq ((block 3 (ops 0 [aa 37 5,aa 38 7,aa 39 8,cO 40 (ixaS 1 (t 38) (t 39)),aF 41 40,a6 42 105 [t 37,t 41],aa 5 42])).seq (ops 0 [aa 35 8,aq 36 .add 35 1,aa 8 36]))).loop))))).seq (ops 0 [aa 14 6,aq 15 .add 14 1,aa 6 15]))).loop)).seq (ac [aa 43 5,aa 4 43] ret)))))
theorem Hy:Is Tryz.prog 51 b51:=mkI Tryz.func51
def b53:F2:=(F2.mk 20 [RV.cn 4 2] (ac [cO 2 (box (t 0)),cO 4 (alloc (AV.agg [bt,AV.esl]))] (ac [bP 6 1 2,aa 7 1,aq 8 .add 7 1,a6 9 51 [t 6,t 8],aa 5 9] ((ac [aa 10 1,aq 11 .eql 10 0] (au 11 (ac [aa 12 5,bj 13 12,cO 14 (bld [bt,AV.esl] [(0,1,t 13)]),bG 2 4 14] ret) skip)).seq (ac [aa 15 5,bP 16 1 2,aa 17 1,a6 18 51 [t 16,t 17],a6 19 110 [t 15,t 18],bG 2 4 19] ret)))))
theorem H9:Is Tryz.prog 53 b53:=mkI Tryz.func53
def b58:F2:=(F2.mk 26 [RV.cn 4 2,RV.t 5] (ac [cO 2 (box (t 0)),cO 4 (alloc (AV.agg [bt,AV.esl])),cO 5 (mov (cN 0))] ((ac [aa 8 1,aq 9 .lss 8 8] (au 9 (ac [bP 10 1 2,aa 11 1,a6 12 112 [t 10,t 11],bI 13 12 0,bI 14 12 1,bG 2 4 13,aa 5 14] ret) skip)).seq (ac [bP 16 1 2,aa 17 1,aq 18 .sub 17 1,a6 19 98 [t 16,t 18],aa 15 19,bI 20 15 0,bI 21 15 1,aa 6 20,aa 7 21] (ac [aa 22 6,cO 23 (mks 1 24 [AV.esl] (t 22) (t 22)),cO 24 (bld [bt,AV.esl] [(1,1,t 23)]),aa 25 7,bG 2 4 24,aa 5 25] ret)))))
theorem HJ:Is Tryz.prog 58 b58:=mkI Tryz.func58
def b70:F2:=(F2.mk 8 [RV.t 4] (ac [cO 4 (mov (cN 0))] (ac [aa 5 0,aa 6 1,a6 7 122 ([t 5,t 6,c (AV.func 123 [])]),aa 4 7] ret)))
theorem Ie:Is Tryz.prog 70 b70:=mkI Tryz.func70
def b72:F2:=(F2.mk 39 [RV.t 2] (ac [cO 2 (mov (cN 0))] ((block 0 (ac [aa 5 0,bj 6 5,aq 7 .eql 6 0,aa 4 7] (au 4 (ac [cO 2 (mov (cN 16))] ret) (ac [aa 9 0,bj 10 9,aq 11 .gtr 10 8,aa 8 11] (au 8 (ac [cO 2 (mov (cN 5))] ret) skip))))).seq ((ac [cO 3 (mov (cN 0))] (block 1 ((ac [aa 12 3,aa 13 0,bj 14 13,aO 15 .lss 12 14] (au 15 skip (exit 1))).seq ((block 2 ((ac [aa 18 0,aa 19 3,cO 20 (ixaS 2 (t 18) (t 19)),bP 21 2 20,a6 22 125 [t 21],cO 23 (un UnOp.not (t 22))] (au 23 (ac [cO 2 (mov (cN 2))] ret) skip)).seq ((mixS 1 [aa 24 3,aq 25 .gtr 24 0,aa 26 25,ap 27 26 (cM 0),ap 28 26 (cM 3),ap 29 26 (cB .sub (t 28) (cN 1)),ap 30 26 (ixaS 2 (t 27) (t 29)),ap 31 26 (ldn 2 (t 30)),ap 32 26 (cM 0),ap 33 26 (cM 3),ap 34 26 (ixaS 2 (t 32) (t 33)),ap 35 26 (ldn 2 (t 34)),ap 36 26 (call (cF 126) [t 31,t 35]),ap 37 26 (cB .geq (t 36) (cN 0)),cO 38 (pick (t 26) (t 37) bm)] [(0,0),(1,0),(2,0),(3,0),(4,0),(5,0),(6,0),(7,0),(8,0),(9,0),(10,0),(11,0),(12,2),(13,0),(14,0)]).seq (au 38 (ac [cO 2 (mov (cN 14))] ret) skip)))).seq (ops 0 [aa 16 3,aq 17 .add 16 1,aa 3 17]))).loop)).seq (ac [cO 2 (mov (cN 0))] ret)))))
theorem HU:Is Tryz.prog 72 b72:=mkI Tryz.func72
def b73:F2:=(F2.mk 43 [RV.t 4] (ac [cO 4 (mov (cN 0))] ((ac [cO 5 (mov (cN 0))] (block 0 ((ac [aa 7 5,aa 8 0,bj 9 8,aO 10 .lss 7 9,aa 11 10,ap 12 11 (cM 5),ap 13 11 (cM 1),ap 14 11 (lenS (t 13)),ap 15 11 (cB .lss (t 12) (t 14)),cO 16 (pick (t 11) (t 15) bm)] (au 16 skip (exit 0))).seq ((block 1 ((mixS 1 [aa 19 0,aa 20 5,cO 21 (ixaS 2 (t 19) (t 20)),bP 22 2 21,aa 23 1,aa 24 5,cO 25 (ixaS 2 (t 23) (t 24)),bP 26 2 25,a6 27 126 [t 22,t 26],aa 6 27] [(0,0),(1,0),(2,0),(3,0),(4,0),(5,0),(6,0),(7,0),(8,2),(9,0)]).seq (ac [aa 28 6,aq 29 .neq 28 0] (au 29 (ac [aa 30 6,aa 4 30] ret) skip)))).seq (ops 0 [aa 17 5,aq 18 .add 17 1,aa 5 18]))).loop)).seq ((block 2 (ac [aa 32 0,bj 33 32,aa 34 1,bj 35 34,aO 36 .lss 33 35,aa 31 36] (au 31 (ac [cO 4 (mov (cN ((-1))))] ret) (ac [aa 38 0,bj 39 38,aa 40 1,bj 41 40,aO 42 .gtr 39 41,aa 37 42] (au 37 (ac [cO 4 (mov (cN 1))] ret) skip))))).seq (ac [cO 4 (mov (cN 0))] ret)))))
theorem HL:Is Tryz.prog 73 b73:=mkI Tryz.func73
def b74:F2:=(F2.mk 19 [RV.t 4] (ac [cO 4 (mov bm)] ((ac [cO 5 (mov (cN 0))] (block 0 ((ac [aa 6 5,aa 7 0,bj 8 7,aO 9 .lss 6 8] (au 9 skip (exit 0))).seq ((block 1 (ac [aa 12 1,aa 13 0,aa 14 5,cO 15 (ixaS 2 (t 13) (t 14)),bP 16 2 15,a6 17 127 [t 12,t 16],cO 18 (un UnOp.not (t 17))] (au 18 (ac [cO 4 (mov bm)] ret) skip))).seq (ops 0 [aa 10 5,aq 11 .add 10 1,aa 5 11]))).loop)).seq (ac [cO 4 (mov d6)] ret))))
theorem HC:Is Tryz.prog 74 b74:=mkI Tryz.func74
def b78:F2:=(F2.mk 60 [RV.t 2] (ac [cO 1 (box (t 0)),cO 2 (mov (cN 0))] ((ac [bW 9 0 1,aF 10 9,bj 11 10,aq 12 .gtr 11 4096] (au 12 (ac [cO 2 (mov (cN 5))] ret) skip)).seq ((ac [bW 13 0 1,aF 14 13,bj 15 14,cO 16 (mov (cN 0))] (block 0 (ac [aO 17 .lss 16 15] ((au 17 skip (exit 0)).seq ((block 1 (ac [aa 18 16,cO 19 (ixaS 1 (t 14) (t 16)),aF 20 19,aa 3 18,aa 4 20] ((ac [aa 21 4,a6 22 128 [t 21],aa 5 22] (ac [aa 23 5,aq 24 .neq 23 0] (au 24 (ac [aa 25 5,aa 2 25] ret) skip))).seq (ac [aa 26 3,aq 27 .gtr 26 0,aa 28 27,ap 29 28 (fa 0 (t 1)),ap 30 28 (cD 29),ap 31 28 (cM 3),ap 32 28 (cB .sub (t 31) (cN 1)),ap 33 28 (ixaS 1 (t 30) (t 32)),ap 34 28 (cD 33),ap 35 28 (cM 4),ap 36 28 (call (cF 70) [t 34,t 35]),ap 37 28 (cB .geq (t 36) (cN 0)),cO 38 (pick (t 28) (t 37) bm)] (au 38 (ac [cO 2 (mov (cN 14))] ret) skip))))).seq (ops 0 [aq 39 .add 16 1,aa 16 39])))).loop)).seq (ac [bW 40 0 1,aF 41 40,a6 42 92 [t 41],aa 6 42] ((ac [bW 43 0 1,aF 44 43,bj 45 44,cO 46 (mov (cN 0))] (block 2 (ac [aO 47 .lss 46 45] ((au 47 skip (exit 2)).seq ((block 3 (ac [cO 48 (ixaS 1 (t 44) (t 46)),aF 49 48,aa 8 49] ((mixS 9 [bW 50 0 1,aF 51 50,aa 52 6,aa 53 8,cO 54 (ixaS 2 (t 53) (cN 0)),bP 55 2 54,cO 56 (Ins.mget (MK.st [int,int]) AV.esl false (t 52) (t 55)),aa 57 8,a6 58 131 [t 51,t 56,t 57]] [(0,0),(1,0),(2,0),(3,0),(4,0),(5,0),(7,0),(6,1),(8,2)]).seq (au 58 (ac [cO 2 (mov (cN 7))] ret) skip)))).seq (ops 0 [aq 59 .add 46 1,aa 46 59])))).loop)).seq (ac [cO 2 (mov (cN 0))] ret)))))))
theorem H8:Is Tryz.prog 78 b78:=mkI Tryz.func78
def b79:F2:=(F2.mk 24 [RV.t 4,RV.t 5] (ac [cO 2 (box (t 0)),cO 4 (mov (c AV.esl)),cO 5 (mov (cN 0))] ((ac [bP 7 1 2,a6 8 78 [t 7],aa 6 8] (ac [aa 9 6,aq 10 .neq 9 0] (au 10 (ac [aa 11 6,cO 4 (mov (c AV.esl)),aa 5 11] ret) skip))).seq ((ac [aa 12 1,aq 13 .lss 12 1,aa 14 13,bX 15 14 (cM 1),bX 16 14 (cB .gtr (t 15) (cN 8)),cO 17 (pick (t 14) d6 (t 16))] (au 17 (ac [cO 4 (mov (c AV.esl)),cO 5 (mov (cN 2))] ret) skip)).seq (ac [bW 18 0 2,aF 19 18,aa 20 1,a6 21 87 [t 19,t 20],bI 22 21 0,bI 23 21 1,aa 4 22,aa 5 23] ret)))))
theorem HE:Is Tryz.prog 79 b79:=mkI Tryz.func79
def b80:F2:=(F2.mk 11 [RV.t 4,RV.t 5] (ac [cO 4 (mov (cN 0)),cO 5 (mov bm)] (ac [aa 6 0,aa 7 1,a6 8 132 ([t 6,t 7,c (AV.func 70 [])]),bI 9 8 0,bI 10 8 1,aa 4 9,aa 5 10] ret)))
theorem HT:Is Tryz.prog 80 b80:=mkI Tryz.func80
def b83:F2:=(F2.mk 14 [RV.t 4,RV.t 5] (ac [cO 2 (box (t 0)),cO 4 (mov (c AV.esl)),cO 5 (mov (cN 0))] ((ac [aa 6 1,aq 7 .lss 6 0] (au 7 (ac [cO 4 (mov (c AV.esl)),cO 5 (mov (cN 0))] ret) skip)).seq (ac [bP 8 1 2,aa 9 1,aq 10 .add 9 1,a6 11 79 [t 8,t 10],bI 12 11 0,bI 13 11 1,aa 4 12,aa 5 13] ret))))
theorem HX:Is Tryz.prog 83 b83:=mkI Tryz.func83
def b87:F2:=(F2.mk 60 [RV.t 4,RV.t 5] (ac [cO 4 (mov (c AV.esl)),cO 5 (mov (cN 0))] (ac [cO 14 (mkm none),aa 6 14] (ac [cO 7 (mov (c AV.esl))] ((ac [aa 15 0,bj 16 15,cO 17 (mov (cN 0))] (block 0 (ac [aO 18 .lss 17 16] ((au 18 skip (exit 0)).seq ((block 1 (ac [cO 19 (ixaS 1 (t 15) (t 17)),aF 20 19,aa 9 20] ((ac [aa 21 9,bj 22 21,aa 23 1,aO 24 .lss 22 23] (au 24 (exit 1) skip)).seq (ac [aa 26 9,aa 27 1,a6 28 137 [t 26,t 27],aa 25 28,bI 29 25 0,bI 30 25 1,aa 10 29,aa 11 30] ((ac [aa 31 11,aq 32 .neq 31 0] (au 32 (ac [aa 33 11,cO 4 (mov (c AV.esl)),aa 5 33] ret) skip)).seq ((ac [aa 34 10,bj 35 34,cO 36 (mov (cN 0))] (block 2 (ac [aO 37 .lss 36 35] ((au 37 skip (exit 2)).seq ((block 3 (ac [cO 38 (ixaS 1 (t 34) (t 36)),aF 39 38,aa 13 39] (ac [aa 40 6,aa 41 13,a6 42 138 [t 41],cO 43 (Ins.mget (MK.st [int,int,int,int,int,int,int,int,int,int,int,int,int,int,int,int]) (AV.bool false) false (t 40) (t 42)),cO 44 (un UnOp.not (t 43))] (au 44 (ac [aa 45 6,aa 46 13,a6 47 138 [t 46],Op2.mk none none (mput (MK.st [int,int,int,int,int,int,int,int,int,int,int,int,int,int,int,int]) (t 45) (t 47) d6)] (ops 0 [aa 48 7,aa 49 13,cO 50 (bldS 1 1 [AV.esl] [(0,1,t 49)]),cO 51 (app 1 24 (t 48) (t 50)),aa 7 51])) skip)))).seq (ops 0 [aq 52 .add 36 1,aa 36 52])))).loop)).seq (ac [aa 53 7,bj 54 53,aq 55 .gtr 54 4096] (au 55 (ac [cO 4 (mov (c AV.esl)),cO 5 (mov (cN 17))] ret) skip)))))))).seq (ops 0 [aq 56 .add 17 1,aa 17 56])))).loop)).seq (ac [aa 57 7,a6 58 130 ([t 57,c (AV.func 70 [])])] (ac [aa 59 7,aa 4 59,cO 5 (mov (cN 0))] ret)))))))
theorem HS:Is Tryz.prog 87 b87:=mkI Tryz.func87
def b92:F2:=(F2.mk 33 [RV.t 2] (ac [cO 2 (mov (c AV.nilm))] (ac [cO 8 (mkm none),aa 3 8] ((ac [aa 9 0,bj 10 9,cO 11 (mov (cN 0))] (block 0 (ac [aO 12 .lss 11 10] ((au 12 skip (exit 0)).seq ((block 1 (ac [aa 13 11,cO 14 (ixaS 1 (t 9) (t 11)),aF 15 14,aa 4 13,aa 5 15] (ac [aa 16 5,bj 17 16,cO 18 (mov (cN 0))] (block 2 (ac [aO 19 .lss 18 17] ((au 19 skip (exit 2)).seq ((block 3 (ac [cO 20 (ixaS 2 (t 16) (t 18)),bP 21 2 20,cO 7 (alloc (AV.agg [bt,bt])),bG 2 7 21] (ops 0 [aa 22 3,bP 23 2 7,aa 25 4,cO 26 (bldS 1 1 [bt] [(0,1,t 25)]),cO 27 (mplc (MK.st [int,int]) AV.esl (t 22) (t 23)),bI 24 27 0,cO 28 (app 1 8 (t 24) (t 26)),bI 29 27 1,Op2.mk none none (mpst (t 22) (t 29) (t 28))]))).seq (ops 0 [aq 30 .add 18 1,aa 18 30])))).loop)))).seq (ops 0 [aq 31 .add 11 1,aa 11 31])))).loop)).seq (ac [aa 32 3,aa 2 32] ret)))))
theorem H7:Is Tryz.prog 92 b92:=mkI Tryz.func92
def b94:F2:=(F2.mk 33 [RV.t 2,RV.t 3] (ac [cO 1 (box (t 0)),cO 2 (mov (cN 0)),cO 3 (mov bm)] (ac [cO 4 (mov (cN 8)),cO 5 (mov (cN 0))] ((ac [bW 8 0 1,aF 9 8,bj 10 9,cO 11 (mov (cN 0))] (block 0 (ac [aO 12 .lss 11 10] ((au 12 skip (exit 0)).seq ((block 1 (ac [cO 13 (ixaS 1 (t 9) (t 11)),aF 14 13,aa 7 14] (ops 0 [aa 15 4,aa 16 7,bj 17 16,cO 18 (mn (t 15) [t 17]),aa 19 5,aa 20 7,bj 21 20,cO 22 (mx (t 19) [t 21]),aa 4 18,aa 5 22]))).seq (ops 0 [aq 23 .add 11 1,aa 11 23])))).loop)).seq (ac [aa 24 5,aq 25 .sub 24 1,aa 26 5,aq 27 .eql 26 0,aa 28 27,bX 29 28 (cM 4),bX 30 28 (cM 5),bX 31 28 (cB .eql (t 29) (t 30)),cO 32 (pick (t 28) d6 (t 31)),aa 2 25,aa 3 32] ret)))))
theorem HG:Is Tryz.prog 94 b94:=mkI Tryz.func94
def b95:F2:=(F2.mk 19 [RV.t 2] (ac [cO 2 (mov bm)] ((ac [aa 4 0,bj 5 4,aq 6 .gtr 5 30] (au 6 (ac [cO 2 (mov bm)] ret) skip)).seq ((ac [cO 3 (mov (cN 0))] (block 0 ((ac [aa 7 3,aa 8 0,bj 9 8,aO 10 .lss 7 9] (au 10 skip (exit 0))).seq ((block 1 (ac [aa 13 0,aa 14 3,cO 15 (ixaS 1 (t 13) (t 14)),aF 16 15,a6 17 145 [t 16],cO 18 (un UnOp.not (t 17))] (au 18 (ac [cO 2 (mov bm)] ret) skip))).seq (ops 0 [aa 11 3,aq 12 .add 11 1,aa 3 12]))).loop)).seq (ac [cO 2 (mov d6)] ret)))))
theorem Ib:Is Tryz.prog 95 b95:=mkI Tryz.func95
def b96:F2:=(F2.mk 20 [RV.t 2,RV.t 3,RV.t 4] (ac [cO 1 (box (t 0)),cO 2 (mov (cN 0)),cO 3 (mov bm),cO 4 (mov (cN 0))] ((ac [bP 8 1 1,a6 9 78 [t 8],aa 5 9] (ac [aa 10 5,aq 11 .neq 10 0] (au 11 (ac [aa 12 5,cO 2 (mov (cN 0)),cO 3 (mov bm),aa 4 12] ret) skip))).seq (ac [bP 14 1 1,a6 15 94 [t 14],aa 13 15,bI 16 13 0,bI 17 13 1,aa 6 16,aa 7 17] (ac [aa 18 6,aa 19 7,aa 2 18,aa 3 19,cO 4 (mov (cN 0))] ret)))))
theorem HW:Is Tryz.prog 96 b96:=mkI Tryz.func96
def b97:F2:=(F2.mk 15 [RV.t 2,RV.t 3] (ac [cO 1 (box (t 0)),cO 2 (mov (cN 0)),cO 3 (mov (cN 0))] (ac [bP 7 2 1,a6 8 134 [t 7],aa 6 8,bI 9 6 0,bI 10 6 1,cO 4 (alloc (AV.agg [bt,AV.esl])),bG 2 4 9,aa 5 10] (ac [bW 11 1 4,aF 12 11,bj 13 12,aa 14 5,aa 2 13,aa 3 14] ret))))
theorem HO:Is Tryz.prog 97 b97:=mkI Tryz.func97
def b98:F2:=(F2.mk 24 [RV.t 4,RV.t 5] (ac [cO 2 (box (t 0)),cO 4 (mov (cN 0)),cO 5 (mov (cN 0))] ((ac [aa 8 1,aq 9 .lss 8 0,aa 10 9,bX 11 10 (cM 1),bX 12 10 (cB .geq (t 11) (cN 8)),cO 13 (pick (t 10) d6 (t 12))] (au 13 (ac [cO 4 (mov (cN 0)),cO 5 (mov (cN 0))] ret) skip)).seq (ac [bP 15 1 2,aa 16 1,aq 17 .add 16 1,a6 18 79 [t 15,t 17],aa 14 18,bI 19 14 0,bI 20 14 1,aa 6 19,aa 7 20] (ac [aa 21 6,bj 22 21,aa 23 7,aa 4 22,aa 5 23] ret)))))
theorem Ia:Is Tryz.prog 98 b98:=mkI Tryz.func98
def b99:F2:=(F2.mk 26 [RV.t 4,RV.t 5] (ac [cO 2 (box (t 0)),cO 4 (mov (c AV.esl)),cO 5 (mov (cN 0))] ((ac [bP 8 1 2,a6 9 28 [t 8],aa 6 9] (ac [aa 10 6,aq 11 .neq 10 0] (au 11 (ac [aa 12 6,cO 4 (mov (c AV.esl)),aa 5 12] ret) skip))).seq ((ac [aa 13 1,aq 14 .lss 13 1,aa 15 14,bX 16 15 (cM 1),bX 17 15 (cB .gtr (t 16) (cN 8)),cO 18 (pick (t 15) d6 (t 17))] (au 18 (ac [cO 4 (mov (c AV.esl)),cO 5 (mov (cN 2))] ret) skip)).seq (ac [bP 19 1 2,aa 20 1,a6 21 51 [t 19,t 20],aa 7 21] ((ac [aa 22 7,bj 23 22,aq 24 .gtr 23 4096] (au 24 (ac [cO 4 (mov (c AV.esl)),cO 5 (mov (cN 17))] ret) skip)).seq (ac [aa 25 7,aa 4 25,cO 5 (mov (cN 0))] ret)))))))
theorem HI:Is Tryz.prog 99 b99:=mkI Tryz.func99
def F5:F2:=(F2.mk 11 [RV.t 4] (ac [cO 2 (box (t 0)),cO 4 (mov (cN 0))] (ac [bP 5 1 2,aa 6 1,a6 7 53 [t 5,t 6],a6 8 106 [t 7],cO 9 (part1 1 (t 8)),bj 10 9,aa 4 10] ret)))
theorem F1:Is Tryz.prog 100 F5:=mkI Tryz.func100
def Gn:F2:=(F2.mk 19 [RV.t 4] (ac [cO 4 (mov (cN 0))] ((ac [aa 6 0,bj 7 6,cO 8 (mov (cN 0))] (block 0 (ac [aO 9 .lss 8 7] ((au 9 skip (exit 0)).seq ((block 1 (ac [aa 10 8,aa 5 10] (ac [aa 11 1,aa 12 0,aa 13 5,cO 14 (ixaS 1 (t 12) (t 13)),aF 15 14,cO 16 (call (t 11) [t 15])] (au 16 (ac [aa 17 5,aa 4 17] ret) skip)))).seq (ops 0 [aq 18 .add 8 1,aa 8 18])))).loop)).seq (ac [cO 4 (mov (cN ((-1))))] ret))))
theorem F7:Is Tryz.prog 101 Gn:=mkI Tryz.func101
def Ey:F2:=(F2.mk 47 [RV.t 4] (ac [cO 4 (mov (c AV.esl))] ((ac [aa 9 1,aq 10 .eql 9 0] (au 10 (ac [cO 11 (bldS 1 1 [AV.esl] [(0,1,c AV.esl)]),aa 4 11] ret) skip)).seq (ac [cO 5 (mov (c AV.esl))] ((ac [cO 6 (mov (cN 0))] (block 0 ((ac [aa 12 6,aa 13 1,aO 14 .add 12 13,aa 15 0,bj 16 15,aO 17 .leq 14 16] (au 17 skip (exit 0))).seq ((block 1 (ac [aa 20 0,aa 21 6,aq 22 .add 21 1,cO 23 (sls 2 (t 20) (some (t 22)) none none),aa 24 1,aq 25 .sub 24 1,a6 26 104 [t 23,t 25],aa 7 26] (ac [cO 8 (mov (cN 0))] (block 2 ((ac [aa 27 8,aa 28 7,bj 29 28,aO 30 .lss 27 29] (au 30 skip (exit 2))).seq ((block 3 (mixS 9 [aa 33 5,aa 34 0,aa 35 6,cO 36 (ixaS 2 (t 34) (t 35)),bP 37 2 36,cO 38 (bldS 2 1 [bt,bt] [(0,2,t 37)]),aa 39 7,aa 40 8,cO 41 (ixaS 1 (t 39) (t 40)),aF 42 41,cO 43 (app 2 16 (t 38) (t 42)),cO 44 (bldS 1 1 [AV.esl] [(0,1,t 43)]),cO 45 (app 1 24 (t 33) (t 44)),aa 5 45] [(0,0),(1,0),(2,0),(3,0),(4,0),(6,0),(7,0),(8,0),(9,0),(5,1),(10,2),(11,3),(12,2),(13,0)])).seq (ops 0 [aa 31 8,aq 32 .add 31 1,aa 8 32]))).loop)))).seq (ops 0 [aa 18 6,aq 19 .add 18 1,aa 6 19]))).loop)).seq (ac [aa 46 5,aa 4 46] ret))))))
theorem Dh:Is Tryz.prog 104 Ey:=mkI Tryz.func104
def GR:F2:=(F2.mk 48 [RV.t 4] (ac [cO 4 (mov (c AV.esl))] (ac [cO 5 (mov (c AV.esl))] (ac [cO 6 (mov bm)] ((ac [cO 7 (mov (cN 0))] (block 0 ((ac [aa 9 7,aa 10 0,bj 11 10,aO 12 .lss 9 11] (au 12 skip (exit 0))).seq ((block 1 (ac [aa 15 1,aa 16 0,aa 17 7,cO 18 (ixaS 1 (t 16) (t 17)),aF 19 18,a6 20 73 [t 15,t 19],aa 8 20] ((ac [aa 21 8,aq 22 .eql 21 0] (au 22 (ac [aa 23 0,aa 4 23] ret) skip)).seq ((ac [aa 24 6,cO 25 (un UnOp.not (t 24)),aa 26 25,ap 27 26 (cM 8),ap 28 26 (cB .lss (t 27) (cN 0)),cO 29 (pick (t 26) (t 28) bm)] (au 29 (ops 0 [aa 30 5,aa 31 1,cO 32 (bldS 1 1 [AV.esl] [(0,1,t 31)]),cO 33 (app 1 24 (t 30) (t 32)),aa 5 33,cO 6 (mov d6)]) skip)).seq (ops 0 [aa 34 5,aa 35 0,aa 36 7,cO 37 (ixaS 1 (t 35) (t 36)),aF 38 37,cO 39 (bldS 1 1 [AV.esl] [(0,1,t 38)]),cO 40 (app 1 24 (t 34) (t 39)),aa 5 40]))))).seq (ops 0 [aa 13 7,aq 14 .add 13 1,aa 7 14]))).loop)).seq ((ac [aa 41 6,cO 42 (un UnOp.not (t 41))] (au 42 (ops 0 [aa 43 5,aa 44 1,cO 45 (bldS 1 1 [AV.esl] [(0,1,t 44)]),cO 46 (app 1 24 (t 43) (t 45)),aa 5 46]) skip)).seq (ac [aa 47 5,aa 4 47] ret)))))))
theorem G6:Is Tryz.prog 105 GR:=mkI Tryz.func105
def En:F2:=(F2.mk 81 [RV.cn 2 2] (ac [cO 1 (box (t 0)),cO 2 (alloc (AV.agg [bt,AV.esl]))] (ac [cO 3 (mov (c AV.esl))] (ac [aa 9 3,bW 10 1 1,aF 11 10,cO 12 (app 1 24 (t 9) (t 11)),aa 3 12] (ac [cO 4 (mov (cN 0))] ((ac [cO 5 (mov (cN 0))] (block 0 ((ac [aa 13 5,bW 14 0 1,aF 15 14,aO 16 .lss 13 15] (au 16 skip (exit 0))).seq ((block 1 (ac [aa 19 3,aa 20 4,aa 21 5,a6 22 148 [t 19,t 20,t 21],aa 6 22] ((ac [aa 23 6,aq 24 .lss 23 0] (au 24 (exit 1) skip)).seq ((ops 1 [aa 25 3,aa 26 4,aa 27 3,aa 28 6,aa 29 3,aa 30 6,cO 31 (ixaS 1 (t 29) (t 30)),aF 32 31,aa 33 3,aa 34 4,cO 35 (ixaS 1 (t 33) (t 34)),aF 36 35,cO 37 (ixaS 1 (t 25) (t 26)),bG 1 37 32,cO 38 (ixaS 1 (t 27) (t 28)),bG 1 38 36]).seq ((ac [cO 7 (mov (cN 0))] (block 2 ((ac [aa 39 7,aa 40 3,bj 41 40,aO 42 .lss 39 41] (au 42 skip (exit 2))).seq ((block 3 (ac [aa 45 7,aa 46 4,aO 47 .neq 45 46,aa 48 47,ap 49 48 (cM 3),ap 50 48 (cM 7),ap 51 48 (ixaS 1 (t 49) (t 50)),ap 52 48 (cD 51),ap 53 48 (cM 5),ap 54 48 (call (cF 108) [t 52,t 53]),cO 55 (pick (t 48) (t 54) bm)] (au 55 (mixS 1 [aa 56 3,aa 57 7,aa 58 3,aa 59 7,cO 60 (ixaS 1 (t 58) (t 59)),aF 61 60,aa 62 3,aa 63 4,cO 64 (ixaS 1 (t 62) (t 63)),aF 65 64,a6 66 109 [t 61,t 65],cO 67 (ixaS 1 (t 56) (t 57)),bG 1 67 66] [(0,0),(1,0),(2,0),(3,0),(4,0),(5,0),(6,0),(7,0),(8,0),(9,0),(10,2),(11,0),(12,2)]) skip))).seq (ops 0 [aa 43 7,aq 44 .add 43 1,aa 7 44]))).loop)).seq (ops 0 [aa 68 4,aq 69 .add 68 1,aa 4 69])))))).seq (ops 0 [aa 17 5,aq 18 .add 17 1,aa 5 18]))).loop)).seq (ac [bW 70 0 1,aF 71 70,cO 72 (bld [bt,AV.esl] [(0,1,t 71)]),cO 8 (alloc (AV.agg [bt,AV.esl])),bG 2 8 72] ((ops 1 [bW 73 1 8,aF 74 73,aa 75 3,aa 76 4,cO 77 (sls 1 (t 75) none (some (t 76)) none),cO 78 (app 1 24 (t 74) (t 77)),bW 79 1 8,bG 1 79 78]).seq (ac [bP 80 2 8,bG 2 2 80] ret)))))))))
theorem Dq:Is Tryz.prog 106 En:=mkI Tryz.func106
def Fa:F2:=(F2.mk 18 [RV.t 4] (ac [cO 4 (mov bm)] ((ac [cO 5 (mov (cN 0))] (block 0 ((ac [aa 6 5,aa 7 0,bj 8 7,aO 9 .lss 6 8] (au 9 skip (exit 0))).seq ((block 1 (ac [aa 12 0,aa 13 5,cO 14 (ixaS 1 (t 12) (t 13)),aF 15 14,aa 16 1,aO 17 .eql 15 16] (au 17 (ac [cO 4 (mov d6)] ret) skip))).seq (ops 0 [aa 10 5,aq 11 .add 10 1,aa 5 11]))).loop)).seq (ac [cO 4 (mov bm)] ret))))
theorem Ht:Is Tryz.prog 108 Fa:=mkI Tryz.func108
def GG:F2:=(F2.mk 77 [RV.t 4] (ac [cO 4 (mov (c AV.esl))] (ac [cO 5 (mov (c AV.esl))] (ac [cO 6 (mov (cN 0)),cO 7 (mov (cN 0))] ((block 0 ((ac [aa 8 6,aa 9 0,bj 10 9,aO 11 .lss 8 10,aa 12 11,bX 13 12 (cM 7),bX 14 12 (cM 1),bX 15 12 (lenS (t 14)),bX 16 12 (cB .lss (t 13) (t 15)),cO 17 (pick (t 12) d6 (t 16))] (au 17 skip (exit 0))).seq (block 1 ((ops 1 [aa 18 7,aa 19 1,bj 20 19,aO 21 .eql 18 20,aa 22 21,bX 23 22 (cM 6),bX 24 22 (cM 0),bX 25 22 (lenS (t 24)),bX 26 22 (cB .lss (t 23) (t 25)),bX 27 22 (cM 26),ap 28 27 (cM 0),ap 29 27 (cM 6),ap 30 27 (ixaS 1 (t 28) (t 29)),ap 31 27 (cD 30),ap 32 27 (cM 1),ap 33 27 (cM 7),ap 34 27 (ixaS 1 (t 32) (t 33)),ap 35 27 (cD 34),ap 36 27 (cB .lss (t 31) (t 35)),bX 37 22 (pick (t 27) (t 36) bm),cO 38 (pick (t 22) d6 (t 37))]).seq (au 38 (ac [aa 39 5,aa 40 0,aa 41 6,cO 42 (ixaS 1 (t 40) (t 41)),aF 43 42,cO 44 (bldS 1 1 [bt] [(0,1,t 43)]),cO 45 (app 1 8 (t 39) (t 44)),aa 5 45] (ops 0 [aa 46 6,aq 47 .add 46 1,aa 6 47])) ((ops 1 [aa 48 6,aa 49 0,bj 50 49,aO 51 .eql 48 50,aa 52 51,bX 53 52 (cM 1),bX 54 52 (cM 7),bX 55 52 (ixaS 1 (t 53) (t 54)),bX 56 52 (cD 55),bX 57 52 (cM 0),bX 58 52 (cM 6),bX 59 52 (ixaS 1 (t 57) (t 58)),bX 60 52 (cD 59),bX 61 52 (cB .lss (t 56) (t 60)),cO 62 (pick (t 52) d6 (t 61))]).seq (au 62 (ac [aa 63 5,aa 64 1,aa 65 7,cO 66 (ixaS 1 (t 64) (t 65)),aF 67 66,cO 68 (bldS 1 1 [bt] [(0,1,t 67)]),cO 69 (app 1 8 (t 63) (t 68)),aa 5 69] (ops 0 [aa 70 7,aq 71 .add 70 1,aa 7 71])) (ac [aa 72 6,aq 73 .add 72 1,aa 6 73] (ops 0 [aa 74 7,aq 75 .add 74 1,aa 7 75])))))))).loop).seq (ac [aa 76 5,aa 4 76] ret))))))
theorem Ft:Is Tryz.prog 109 GG:=mkI Tryz.func109
def EY:F2:=(F2.mk 44 [RV.cn 4 2] (ac [cO 4 (alloc (AV.agg [bt,AV.esl]))] (ac [aa 9 0,bj 10 9,cO 11 (bld [bt,AV.esl] [(0,1,t 10)]),cO 5 (alloc (AV.agg [bt,AV.esl])),bG 2 5 11] ((ac [cO 6 (mov (cN 0))] (block 0 ((ac [aa 12 6,aa 13 1,bj 14 13,aO 15 .lss 12 14] (au 15 skip (exit 0))).seq ((block 1 (ac [cO 7 (mov (c AV.esl))] ((ac [cO 8 (mov (cN 0))] (block 2 ((ac [aa 18 8,aa 19 0,bj 20 19,aO 21 .lss 18 20] (au 21 skip (exit 2))).seq ((block 3 ((mixS 1 [aa 24 1,aa 25 6,cO 26 (ixaS 1 (t 24) (t 25)),aF 27 26,aa 28 0,aa 29 8,cO 30 (ixaS 1 (t 28) (t 29)),aF 31 30,a6 32 74 [t 27,t 31]] [(0,0),(1,0),(2,0),(3,0),(4,0),(5,0),(6,0),(7,0),(8,2)]).seq (au 32 (ops 0 [aa 33 7,aa 34 8,cO 35 (bldS 1 1 [bt] [(0,1,t 34)]),cO 36 (app 1 8 (t 33) (t 35)),aa 7 36]) skip))).seq (ops 0 [aa 22 8,aq 23 .add 22 1,aa 8 23]))).loop)).seq (ops 0 [bW 37 1 5,aF 38 37,aa 39 7,cO 40 (bldS 1 1 [AV.esl] [(0,1,t 39)]),cO 41 (app 1 24 (t 38) (t 40)),bW 42 1 5,bG 1 42 41])))).seq (ops 0 [aa 16 6,aq 17 .add 16 1,aa 6 17]))).loop)).seq (ac [bP 43 2 5,bG 2 4 43] ret)))))
theorem FX:Is Tryz.prog 110 EY:=mkI Tryz.func110
def FS:F2:=(F2.mk 87 [RV.cn 4 2,RV.t 5] (ac [cO 2 (box (t 0)),cO 4 (alloc (AV.agg [bt,AV.esl])),cO 5 (mov (cN 0))] ((ac [bP 16 1 2,a6 17 78 [t 16],aa 6 17] (ac [aa 18 6,aq 19 .neq 18 0] (au 19 (ac [cO 20 (bld [bt,AV.esl] []),aa 21 6,bG 2 4 20,aa 5 21] ret) skip))).seq ((ac [aa 22 1,aq 23 .lss 22 0,aa 24 23,bX 25 24 (cM 1),bX 26 24 (cB .geq (t 25) (cN 8)),cO 27 (pick (t 24) d6 (t 26))] (au 27 (ac [cO 28 (bld [bt,AV.esl] []),bG 2 4 28,cO 5 (mov (cN 2))] ret) skip)).seq (ac [bP 30 1 2,aa 31 1,a6 32 83 [t 30,t 31],aa 29 32,bI 33 29 0,bI 34 29 1,aa 7 33,aa 8 34] ((ac [aa 35 8,aq 36 .neq 35 0] (au 36 (ac [cO 37 (bld [bt,AV.esl] []),aa 38 8,bG 2 4 37,aa 5 38] ret) skip)).seq (ac [bP 40 1 2,aa 41 1,aq 42 .sub 41 1,a6 43 83 [t 40,t 42],aa 39 43,bI 44 39 0,bI 45 39 1,cO 9 (alloc AV.esl),bG 1 9 44,aa 8 45] ((ac [aa 46 8,aq 47 .neq 46 0] (au 47 (ac [cO 48 (bld [bt,AV.esl] []),aa 49 8,bG 2 4 48,aa 5 49] ret) skip)).seq (ac [aa 50 7,bj 51 50,aF 52 9,bj 53 52,cO 54 (mks 1 24 [AV.esl] (t 53) (t 53)),cO 55 (bld [bt,AV.esl] [(0,1,t 51),(1,1,t 54)]),cO 10 (alloc (AV.agg [bt,AV.esl])),bG 2 10 55] ((ac [aa 56 7,bj 57 56,cO 58 (mov (cN 0))] (block 0 (ac [aO 59 .lss 58 57] ((au 59 skip (exit 0)).seq ((block 1 (ac [aa 60 58,cO 61 (ixaS 1 (t 56) (t 58)),aF 62 61,cO 11 (alloc (bt)),bG 1 11 60,aa 12 62] (ac [aa 63 12,a6 64 129 [t 63]] (block 2 (rangeF (t 64) [65] (ops 0 [aa 13 65]) (block 3 (ac [aF 67 9,aa 68 13,a6 69 80 [t 67,t 68],aa 66 69,bI 70 66 0,bI 71 66 1,aa 14 70,aa 15 71] (ac [aa 72 15] (au 72 (mixS 2 [bW 73 1 10,aF 74 73,aa 75 14,bW 76 1 10,aF 77 76,aa 78 14,cO 79 (ixaS 1 (t 77) (t 78)),aF 80 79,aF 81 11,cO 82 (bldS 1 1 [bt] [(0,1,t 81)]),cO 83 (app 1 8 (t 80) (t 82)),cO 84 (ixaS 1 (t 74) (t 75)),bG 1 84 83] [(0,0),(1,0),(2,0),(3,0),(4,0),(5,0),(6,0),(7,0),(8,0),(9,1),(10,1),(11,0),(12,2)]) skip))))))))).seq (ops 0 [aq 85 .add 58 1,aa 58 85])))).loop)).seq (ac [bP 86 2 10,bG 2 4 86,cO 5 (mov (cN 0))] ret)))))))))))
theorem F6:Is Tryz.prog 112 FS:=mkI Tryz.func112
def Fs:F2:=(F2.mk 35 [RV.t 2] (ac [cO 1 (box (t 0)),cO 2 (mov (cN 0))] ((block 0 (ac [bW 7 0 1,aF 8 7,aq 9 .lss 8 0,aa 10 9,bX 11 10 (fa 0 (t 1)),bX 12 10 (cD 11),bX 13 10 (cB .gtr (t 12) (cN 4096)),cO 14 (pick (t 10) d6 (t 13)),aa 6 14] (au 6 (ac [cO 2 (mov (cN 2))] ret) (ac [bW 16 1 1,aF 17 16,bj 18 17,aq 19 .gtr 18 4096,aa 15 19] (au 15 (ac [cO 2 (mov (cN 5))] ret) skip))))).seq ((ac [bW 20 1 1,aF 21 20,bj 22 21,cO 23 (mov (cN 0))] (block 1 (ac [aO 24 .lss 23 22] ((au 24 skip (exit 1)).seq ((block 2 (ac [cO 25 (ixaS 1 (t 21) (t 23)),aF 26 25,aa 4 26] (ac [aa 27 4,bW 28 0 1,aF 29 28,a6 30 114 [t 27,t 29],aa 5 30] (ac [aa 31 5,aq 32 .neq 31 0] (au 32 (ac [aa 33 5,aa 2 33] ret) skip))))).seq (ops 0 [aq 34 .add 23 1,aa 23 34])))).loop)).seq (ac [cO 2 (mov (cN 0))] ret)))))
theorem Hn:Is Tryz.prog 113 Fs:=mkI Tryz.func113
def GH:F2:=(F2.mk 35 [RV.t 4] (ac [cO 4 (mov (cN 0))] ((ac [aa 7 0,bj 8 7,cO 9 (mov (cN 0))] (block 0 (ac [aO 10 .lss 9 8] ((au 10 skip (exit 0)).seq ((block 1 (ac [aa 11 9,cO 12 (ixaS 1 (t 7) (t 9)),aF 13 12,aa 5 11,aa 6 13] (block 2 (ac [aa 15 6,aq 16 .lss 15 0,aa 17 16,bX 18 17 (cM 6),bX 19 17 (cM 1),bX 20 17 (cB .geq (t 18) (t 19)),cO 21 (pick (t 17) d6 (t 20)),aa 14 21] (au 14 (ac [cO 4 (mov (cN 2))] ret) (ac [aa 23 5,aq 24 .gtr 23 0,aa 25 24,ap 26 25 (cM 0),ap 27 25 (cM 5),ap 28 25 (cB .sub (t 27) (cN 1)),ap 29 25 (ixaS 1 (t 26) (t 28)),ap 30 25 (cD 29),ap 31 25 (cM 6),ap 32 25 (cB .geq (t 30) (t 31)),cO 33 (pick (t 25) (t 32) bm),aa 22 33] (au 22 (ac [cO 4 (mov (cN 14))] ret) skip))))))).seq (ops 0 [aq 34 .add 9 1,aa 9 34])))).loop)).seq (ac [cO 4 (mov (cN 0))] ret))))
theorem G3:Is Tryz.prog 114 GH:=mkI Tryz.func114
def Gp:F2:=(F2.mk 95 [RV.t 2,RV.t 3] (ac [cO 1 (box (t 0)),cO 2 (mov (c AV.esl)),cO 3 (mov (c AV.esl))] (ac [cO 16 (mkm none),cO 4 (alloc AV.nilm),bG 1 4 16] (ac [cO 17 (mkfn 149 [t 4]),aa 5 17] (ac [cO 6 (mov (c AV.esl))] ((ac [bW 18 1 1,aF 19 18,bj 20 19,cO 21 (mov (cN 0))] (block 0 (ac [aO 22 .lss 21 20] ((au 22 skip (exit 0)).seq ((block 1 (ac [aa 23 21,cO 24 (ixaS 1 (t 19) (t 21)),aF 25 24,aa 7 23,aa 8 25] (ac [aa 26 5,aa 27 8,a6 28 150 [t 27],aa 29 7,cO 30 (bldS 1 1 [bt] [(0,1,t 29)]),cO 31 (bld [AV.esl,AV.esl] [(0,1,t 28),(1,1,t 30)]),cO 32 (call (t 26) [t 31]),cO 9 (alloc (AV.agg [AV.esl,AV.esl])),bG 2 9 32] ((ac [bW 33 0 9,aF 34 33,bj 35 34,aq 36 .eql 35 0] (au 36 (ac [aa 37 6,bW 38 1 9,aF 39 38,cO 40 (bldS 1 1 [AV.esl] [(0,1,t 39)]),cO 41 (app 1 24 (t 37) (t 40)),aa 6 41] (exit 1)) skip)).seq ((ac [aF 42 4,cO 43 (mrng (t 42))] (block 2 (ac [cO 44 (mnxt (t 43)),bI 45 44 0] ((au 45 skip (exit 2)).seq (block 3 (ac [cO 46 (ment (t 43)),bI 47 46 0,bI 48 46 1,cO 11 (alloc (AV.agg [AV.esl,AV.esl])),aa 10 47,bG 2 11 48] ((mixS 1 [bW 49 0 11,aF 50 49,bW 51 0 9,aF 52 51,cO 53 (ixaS 1 (t 52) (cN 0)),aF 54 53,a6 55 146 [t 50,t 54]] [(0,0),(1,0),(2,0),(3,0),(4,0),(5,0),(6,2)]).seq (au 55 (mixS 9 [aF 56 4,aa 57 10,bW 58 0 11,aF 59 58,bW 60 0 9,aF 61 60,a6 62 124 [t 59,t 61],bW 63 1 11,aF 64 63,bW 65 1 9,aF 66 65,a6 67 124 [t 64,t 66],cO 68 (bld [AV.esl,AV.esl] [(0,1,t 62),(1,1,t 67)]),Op2.mk none none (mput (one int) (t 56) (t 57) (t 68))] [(0,0),(1,0),(2,0),(3,0),(4,0),(5,0),(7,0),(8,0),(9,0),(10,0),(6,1),(11,1),(12,0),(13,2)]) skip)))))).loop)).seq (mixS 9 [aF 69 4,bW 70 0 9,aF 71 70,cO 72 (ixaS 1 (t 71) (cN 0)),aF 73 72,bP 74 2 9,Op2.mk none none (mput (one int) (t 69) (t 73) (t 74))] [(0,0),(1,0),(2,0),(3,0),(4,0),(5,0),(6,2)])))))).seq (ops 0 [aq 75 .add 21 1,aa 21 75])))).loop)).seq (ac [cO 12 (mov (c AV.esl))] ((ac [bW 76 0 1,aF 77 76,cO 78 (mov (cN 0))] (block 4 (ac [aO 79 .lss 78 77] ((au 79 skip (exit 4)).seq ((block 5 (ac [aa 80 78,aa 13 80] (ac [aF 82 4,aa 83 13,cO 84 (Ins.mget (one int) (AV.agg [AV.esl,AV.esl]) true (t 82) (t 83)),aa 81 84,bI 85 81 0,bI 86 81 1,cO 14 (alloc (AV.agg [AV.esl,AV.esl])),bG 2 14 85,aa 15 86] (ac [aa 87 15] (au 87 (ops 0 [aa 88 12,bP 89 2 14,cO 90 (bldS 2 1 [AV.esl,AV.esl] [(0,2,t 89)]),cO 91 (app 2 48 (t 88) (t 90)),aa 12 91]) skip))))).seq (ops 0 [aq 92 .add 78 1,aa 78 92])))).loop)).seq (ac [aa 93 12,aa 94 6,aa 2 93,aa 3 94] ret)))))))))
theorem F4:Is Tryz.prog 115 Gp:=mkI Tryz.func115
def Fx:F2:=(F2.mk 39 [RV.t 6] (ac [cO 6 (mov (cN 0))] ((ac [aa 11 0,bj 12 11,cO 13 (mov (cN 0))] (block 0 (ac [aO 14 .lss 13 12] ((au 14 skip (exit 0)).seq ((block 1 (ac [aa 15 13,cO 16 (ixaS 2 (t 11) (t 13)),bP 17 2 16,cO 8 (alloc (AV.agg [bt,bt])),aa 7 15,bG 2 8 17] ((ac [aa 18 7,aa 19 1,bj 20 19,aO 21 .geq 18 20] (au 21 (ac [cO 6 (mov (cN 1))] ret) skip)).seq (ac [aa 22 1,aa 23 7,cO 24 (ixaS 2 (t 22) (t 23)),bP 25 2 24,cO 9 (alloc (AV.agg [bt,bt])),bG 2 9 25] (ac [aa 26 2,bP 27 2 8,bP 28 2 9,cO 29 (call (t 26) [t 27,t 28]),aa 10 29] (ac [aa 30 10,aq 31 .neq 30 0] (au 31 (ac [aa 32 10,aa 6 32] ret) skip))))))).seq (ops 0 [aq 33 .add 13 1,aa 13 33])))).loop)).seq ((ac [aa 34 0,bj 35 34,aa 36 1,bj 37 36,aO 38 .lss 35 37] (au 38 (ac [cO 6 (mov (cN ((-1))))] ret) skip)).seq (ac [cO 6 (mov (cN 0))] ret)))))
theorem GF:Is Tryz.prog 122 Fx:=mkI Tryz.func122
def Hs:F2:=(F2.mk 17 [RV.t 4] (ac [cO 2 (box (t 0)),cO 3 (box (t 1)),cO 4 (mov (cN 0))] ((mixS 1 [bW 5 0 2,aF 6 5,bW 7 0 3,aF 8 7,a6 9 152 [t 6,t 8],bW 10 1 2,aF 11 10,bW 12 1 3,aF 13 12,a6 14 152 [t 11,t 13],cO 15 (bldS 1 2 [bt] [(0,1,t 9),(1,1,t 14)]),a6 16 151 [t 15],aa 4 16] [(0,0),(1,0),(2,0),(3,0),(5,0),(6,0),(7,0),(8,0),(4,1),(9,2),(10,2),(11,2),(12,0)]).seq ret)))
theorem FQ:Is Tryz.prog 123 Hs:=mkI Tryz.func123
def Gd:F2:=(F2.mk 61 [RV.t 4] (ac [cO 4 (mov (c AV.esl))] (ac [aa 6 0,bj 7 6,aa 8 1,bj 9 8,aO 10 .add 7 9,cO 11 (mks 1 8 [bt] (cN 0) (t 10)),aa 5 11] ((block 0 ((ac [aa 12 0,bj 13 12,aq 14 .gtr 13 0,aa 15 14,ap 16 15 (cM 1),ap 17 15 (lenS (t 16)),ap 18 15 (cB .gtr (t 17) (cN 0)),cO 19 (pick (t 15) (t 18) bm)] (au 19 skip (exit 0))).seq (block 1 (block 2 ((ops 1 [aa 25 0,cO 26 (ixaS 1 (t 25) (cN 0)),aF 27 26,aa 28 1,cO 29 (ixaS 1 (t 28) (cN 0)),aF 30 29,aO 31 .lss 27 30,aa 24 31]).seq (au 24 (ops 1 [aa 32 5,aa 33 0,cO 34 (ixaS 1 (t 33) (cN 0)),aF 35 34,cO 36 (bldS 1 1 [bt] [(0,1,t 35)]),cO 37 (app 1 8 (t 32) (t 36)),aa 38 0,cO 39 (sls 1 (t 38) (some (cN 1)) none none),aa 5 37,aa 0 39]) ((ops 1 [aa 41 0,cO 42 (ixaS 1 (t 41) (cN 0)),aF 43 42,aa 44 1,cO 45 (ixaS 1 (t 44) (cN 0)),aF 46 45,aO 47 .gtr 43 46,aa 40 47]).seq (au 40 (ops 1 [aa 48 5,aa 49 1,cO 50 (ixaS 1 (t 49) (cN 0)),aF 51 50,cO 52 (bldS 1 1 [bt] [(0,1,t 51)]),cO 53 (app 1 8 (t 48) (t 52)),aa 54 1,cO 55 (sls 1 (t 54) (some (cN 1)) none none),aa 5 53,aa 1 55]) (ops 1 [aa 20 0,cO 21 (sls 1 (t 20) (some (cN 1)) none none),aa 22 1,cO 23 (sls 1 (t 22) (some (cN 1)) none none),aa 0 21,aa 1 23])))))))).loop).seq (ac [aa 56 5,aa 57 0,cO 58 (app 1 8 (t 56) (t 57)),aa 59 1,cO 60 (app 1 8 (t 58) (t 59)),aa 4 60] ret)))))
theorem E7:Is Tryz.prog 124 Gd:=mkI Tryz.func124
def Ga:F2:=(F2.mk 21 [RV.t 2] (ac [cO 1 (box (t 0)),cO 2 (mov bm)] (ac [bW 3 0 1,aF 4 3,aq 5 .geq 4 0,aa 6 5,ap 7 6 (fa 0 (t 1)),ap 8 6 (cD 7),ap 9 6 (cB .lss (t 8) (cN 8)),cO 10 (pick (t 6) (t 9) bm),aa 11 10,ap 12 11 (fa 1 (t 1)),ap 13 11 (cD 12),ap 14 11 (cB .geq (t 13) (cN 0)),cO 15 (pick (t 11) (t 14) bm),aa 16 15,ap 17 16 (fa 1 (t 1)),ap 18 16 (cD 17),ap 19 16 (cB .leq (t 18) (cN 1048576)),cO 20 (pick (t 16) (t 19) bm),aa 2 20] ret)))
theorem Fg:Is Tryz.prog 125 Ga:=mkI Tryz.func125
def Fl:F2:=(F2.mk 29 [RV.t 4] (ac [cO 2 (box (t 0)),cO 3 (box (t 1)),cO 4 (mov (cN 0))] ((block 0 (ac [bW 6 0 2,aF 7 6,bW 8 0 3,aF 9 8,aO 10 .lss 7 9,aa 5 10] (au 5 (ac [cO 4 (mov (cN ((-1))))] ret) (ac [bW 12 0 2,aF 13 12,bW 14 0 3,aF 15 14,aO 16 .gtr 13 15,aa 11 16] (au 11 (ac [cO 4 (mov (cN 1))] ret) (ac [bW 18 1 2,aF 19 18,bW 20 1 3,aF 21 20,aO 22 .lss 19 21,aa 17 22] (au 17 (ac [cO 4 (mov (cN ((-1))))] ret) (ac [bW 24 1 2,aF 25 24,bW 26 1 3,aF 27 26,aO 28 .gtr 25 27,aa 23 28] (au 23 (ac [cO 4 (mov (cN 1))] ret) skip))))))))).seq (ac [cO 4 (mov (cN 0))] ret))))
theorem EJ:Is Tryz.prog 126 Fl:=mkI Tryz.func126
def GN:F2:=(F2.mk 18 [RV.t 4] (ac [cO 3 (box (t 1)),cO 4 (mov bm)] ((ac [cO 5 (mov (cN 0))] (block 0 ((ac [aa 6 5,aa 7 0,bj 8 7,aO 9 .lss 6 8] (au 9 skip (exit 0))).seq ((block 1 ((ops 1 [aa 12 0,aa 13 5,cO 14 (ixaS 2 (t 12) (t 13)),bP 15 2 14,bP 16 2 3,cO 17 (binS BinOp.eql [int,int] (t 15) (t 16))]).seq (au 17 (ac [cO 4 (mov d6)] ret) skip))).seq (ops 0 [aa 10 5,aq 11 .add 10 1,aa 5 11]))).loop)).seq (ac [cO 4 (mov bm)] ret))))
theorem EP:Is Tryz.prog 127 GN:=mkI Tryz.func127
def Hd:F2:=(F2.mk 36 [RV.t 2] (ac [cO 2 (mov (cN 0))] ((block 0 (ac [aa 6 0,bj 7 6,aq 8 .eql 7 0,aa 5 8] (au 5 (ac [cO 2 (mov (cN 16))] ret) (ac [aa 10 0,bj 11 10,aq 12 .gtr 11 8,aa 9 12] (au 9 (ac [cO 2 (mov (cN 5))] ret) skip))))).seq ((ac [aa 13 0,bj 14 13,cO 15 (mov (cN 0))] (block 1 (ac [aO 16 .lss 15 14] ((au 16 skip (exit 1)).seq ((block 2 (ac [aa 17 15,cO 18 (ixaS 2 (t 13) (t 15)),bP 19 2 18,cO 4 (alloc (AV.agg [bt,bt])),aa 3 17,bG 2 4 19] ((ac [bP 20 2 4,a6 21 153 [t 20],cO 22 (un UnOp.not (t 21))] (au 22 (ac [cO 2 (mov (cN 2))] ret) skip)).seq ((mixS 1 [aa 23 3,aq 24 .gtr 23 0,aa 25 24,ap 26 25 (cM 0),ap 27 25 (cM 3),ap 28 25 (cB .sub (t 27) (cN 1)),ap 29 25 (ixaS 2 (t 26) (t 28)),ap 30 25 (ldn 2 (t 29)),ap 31 25 (ldn 2 (t 4)),ap 32 25 (call (cF 123) [t 30,t 31]),ap 33 25 (cB .geq (t 32) (cN 0)),cO 34 (pick (t 25) (t 33) bm)] [(0,0),(1,0),(2,0),(3,0),(4,0),(5,0),(6,0),(7,0),(8,0),(9,2),(10,0),(11,0)]).seq (au 34 (ac [cO 2 (mov (cN 14))] ret) skip))))).seq (ops 0 [aq 35 .add 15 1,aa 15 35])))).loop)).seq (ac [cO 2 (mov (cN 0))] ret)))))
theorem FH:Is Tryz.prog 128 Hd:=mkI Tryz.func128
def Gu:F2:=(F2.mk 4 [RV.t 2] (ac [cO 1 (box (t 0)),cO 2 (mov (c AV.nilf))] (ac [cO 3 (mkfn 154 [t 1]),aa 2 3] ret)))
theorem ES:Is Tryz.prog 129 Gu:=mkI Tryz.func129
def D2:F2:=(F2.mk 14 [] (ac [aa 5 0,bj 6 5,aa 4 6] (ops 0 [aa 7 0,aa 8 4,aa 9 4,cO 10 (conv IntKind.u64 (t 9)),a6 11 156 [t 10],aa 12 1,a6 13 155 ([t 7,cN ((0)),t 8,t 11,t 12])])))
theorem Ds:Is Tryz.prog 130 D2:=mkI Tryz.func130
def Gq:F2:=(F2.mk 10 [RV.t 6] (ac [cO 3 (box (t 0)),cO 5 (box (t 2)),cO 6 (mov bm)] (ac [aa 7 1,cO 8 (mkfn 157 [t 3,t 5]),a6 9 48 [t 7,t 8],aa 6 9] ret)))
theorem G1:Is Tryz.prog 131 Gq:=mkI Tryz.func131
def GY:F2:=(F2.mk 49 [RV.t 6,RV.t 7] (ac [cO 6 (mov (cN 0)),cO 7 (mov bm)] (ac [aa 12 0,bj 13 12,aa 8 13] (ac [aa 14 8,cO 9 (mov (cN 0)),aa 10 14] ((block 0 ((ac [aa 15 9,aa 16 10,aO 17 .lss 15 16] (au 17 skip (exit 0))).seq (block 1 (ac [aa 18 9,aa 19 10,aO 20 .add 18 19,cO 21 (conv IntKind.u64 (t 20)),cO 22 (cB .shr (t 21) (c (AV.int IntKind.u64 (1)))),cO 23 (conv IntKind.i64 (t 22)),aa 11 23] (ac [aa 24 2,aa 25 0,aa 26 11,cO 27 (ixaS 1 (t 25) (t 26)),aF 28 27,aa 29 1,cO 30 (call (t 24) [t 28,t 29]),aq 31 .lss 30 0] (au 31 (ops 0 [aa 32 11,aq 33 .add 32 1,aa 9 33]) (ops 0 [aa 34 11,aa 10 34])))))).loop).seq (ac [aa 35 9,aa 36 9,aa 37 8,aO 38 .lss 36 37,aa 39 38,ap 40 39 (cM 2),ap 41 39 (cM 0),ap 42 39 (cM 9),ap 43 39 (ixaS 1 (t 41) (t 42)),ap 44 39 (cD 43),ap 45 39 (cM 1),ap 46 39 (call (t 40) [t 44,t 45]),ap 47 39 (cB .eql (t 46) (cN 0)),cO 48 (pick (t 39) (t 47) bm),aa 6 35,aa 7 48] ret))))))
theorem GP:Is Tryz.prog 132 GY:=mkI Tryz.func132
def FZ:F2:=(F2.mk 39 [RV.cn 2 2,RV.t 3] (ac [cO 1 (box (t 0)),cO 2 (alloc (AV.agg [bt,AV.esl])),cO 3 (mov (cN 0))] ((ac [bP 10 2 1,a6 11 113 [t 10],aa 4 11] (ac [aa 12 4,aq 13 .neq 12 0] (au 13 (ac [cO 14 (bld [bt,AV.esl] []),aa 15 4,bG 2 2 14,aa 3 15] ret) skip))).seq (ac [bW 16 0 1,aF 17 16,cO 18 (bld [bt,AV.esl] [(0,1,t 17)]),cO 5 (alloc (AV.agg [bt,AV.esl])),bG 2 5 18] (ac [bP 20 2 1,a6 21 115 [t 20],aa 19 21,bI 22 19 0,bI 23 19 1,aa 6 22,aa 7 23] ((ac [aa 24 6,bj 25 24,cO 26 (mov (cN 0))] (block 0 (ac [aO 27 .lss 26 25] ((au 27 skip (exit 0)).seq ((block 1 (ac [cO 28 (ixaS 2 (t 24) (t 26)),bP 29 2 28,cO 9 (alloc (AV.agg [AV.esl,AV.esl])),bG 2 9 29] (ops 0 [bW 30 1 5,aF 31 30,bW 32 0 9,aF 33 32,cO 34 (bldS 1 1 [AV.esl] [(0,1,t 33)]),cO 35 (app 1 24 (t 31) (t 34)),bW 36 1 5,bG 1 36 35]))).seq (ops 0 [aq 37 .add 26 1,aa 26 37])))).loop)).seq (ac [bP 38 2 5,bG 2 2 38,cO 3 (mov (cN 0))] ret)))))))
theorem G5:Is Tryz.prog 134 FZ:=mkI Tryz.func134
def GI:F2:=(F2.mk 8 [RV.t 2] (ac [cO 2 (mov (c AV.esl))] ((ac [aa 3 0,cO 4 (snil false (t 3))] (au 4 (ac [cO 2 (mov (c AV.esl))] ret) skip)).seq (ac [cO 5 (bldS 2 0 [bt,bt] []),aa 6 0,cO 7 (app 2 16 (t 5) (t 6)),aa 2 7] ret))))
theorem GL:Is Tryz.prog 136 GI:=mkI Tryz.func136
def Ff:F2:=(F2.mk 24 [RV.t 4,RV.t 5] (ac [cO 4 (mov (c AV.esl)),cO 5 (mov (cN 0))] ((ac [aa 7 0,a6 8 128 [t 7],aa 6 8] (ac [aa 9 6,aq 10 .neq 9 0] (au 10 (ac [aa 11 6,cO 4 (mov (c AV.esl)),aa 5 11] ret) skip))).seq ((ac [aa 12 1,aq 13 .lss 12 1,aa 14 13,bX 15 14 (cM 1),bX 16 14 (cM 0),bX 17 14 (lenS (t 16)),bX 18 14 (cB .gtr (t 15) (t 17)),cO 19 (pick (t 14) d6 (t 18))] (au 19 (ac [cO 4 (mov (c AV.esl)),cO 5 (mov (cN 2))] ret) skip)).seq (ac [aa 20 0,aa 21 1,a6 22 160 [t 20,t 21],a6 23 159 [t 22],aa 4 23,cO 5 (mov (cN 0))] ret)))))
theorem F0:Is Tryz.prog 137 Ff:=mkI Tryz.func137
def Gl:F2:=(F2.mk 16 [RV.cn 2 16] (ac [cO 2 (alloc (AV.agg [bt,bt,bt,bt,bt,bt,bt,bt,bt,bt,bt,bt,bt,bt,bt,bt]))] (ac [cO 3 (alloc (AV.agg [bt,bt,bt,bt,bt,bt,bt,bt,bt,bt,bt,bt,bt,bt,bt,bt]))] ((ac [cO 5 (mov (cN 0))] (block 0 (ac [aq 6 .lss 5 8] ((au 6 skip (exit 0)).seq ((block 1 (ac [aa 7 5,aa 4 7] (ops 0 [aa 8 4,cO 9 (ixaA 8 2 (t 3) (t 8)),bW 10 0 9,Op2.mk none none (Ins.st 1 (t 10) (cN ((-1))))]))).seq (ops 0 [aq 11 .add 5 1,aa 5 11])))).loop)).seq (ac [cO 12 (slp 8 2 (t 3)),aa 13 0,cO 14 (cpy 2 (t 12) (t 13))] (ac [bP 15 16 3,bG 16 2 15] ret))))))
theorem FR:Is Tryz.prog 138 Gl:=mkI Tryz.func138
def Hl:F2:=(F2.mk 36 [RV.t 2] (ac [cO 2 (mov (c AV.esl))] (ac [cO 3 (mov (cN 0))] ((ac [aa 9 0,bj 10 9,cO 11 (mov (cN 0))] (block 0 (ac [aO 12 .lss 11 10] ((au 12 skip (exit 0)).seq ((block 1 (ac [cO 13 (ixaS 1 (t 9) (t 11)),aF 14 13,aa 5 14] (ac [aa 15 3,aa 16 5,bj 17 16,aO 18 .add 15 17,aa 3 18] (ac [aa 19 3,aq 20 .lss 19 0] (au 20 (ops 0 [cO 21 dead,Op2.mk none none dead]) skip))))).seq (ops 0 [aq 22 .add 11 1,aa 11 22])))).loop)).seq (ac [aa 23 3,a6 24 161 [c AV.esl,t 23],aa 6 24] ((ac [aa 25 0,bj 26 25,cO 27 (mov (cN 0))] (block 2 (ac [aO 28 .lss 27 26] ((au 28 skip (exit 2)).seq ((block 3 (ac [cO 29 (ixaS 1 (t 25) (t 27)),aF 30 29,aa 8 30] (ops 0 [aa 31 6,aa 32 8,cO 33 (app 2 16 (t 31) (t 32)),aa 6 33]))).seq (ops 0 [aq 34 .add 27 1,aa 27 34])))).loop)).seq (ac [aa 35 6,aa 2 35] ret)))))))
theorem F8:Is Tryz.prog 141 Hl:=mkI Tryz.func141
def Hr:F2:=(F2.mk 6 [RV.t 2] (ac [cO 2 (mov bm)] (ac [aa 3 0,bj 4 3,aq 5 .leq 4 10,aa 2 5] ret)))
theorem Fh:Is Tryz.prog 145 Hr:=mkI Tryz.func145
def GX:F2:=(F2.mk 14 [RV.t 4] (ac [cO 4 (mov bm)] (ac [aa 8 0,aa 9 1,a6 10 163 [t 8,t 9],aa 7 10,bI 11 7 0,bI 12 7 1,aa 5 11,aa 6 12] (ac [aa 13 6,aa 4 13] ret))))
theorem Ha:Is Tryz.prog 146 GX:=mkI Tryz.func146
def Gm:F2:=(F2.mk 22 [RV.t 6] (ac [cO 6 (mov (cN 0))] ((ac [aa 8 1,aa 7 8] (block 0 ((ac [aa 9 7,aa 10 0,bj 11 10,aO 12 .lss 9 11] (au 12 skip (exit 0))).seq ((block 1 (ac [aa 15 0,aa 16 7,cO 17 (ixaS 1 (t 15) (t 16)),aF 18 17,aa 19 2,a6 20 108 [t 18,t 19]] (au 20 (ac [aa 21 7,aa 6 21] ret) skip))).seq (ops 0 [aa 13 7,aq 14 .add 13 1,aa 7 14]))).loop)).seq (ac [cO 6 (mov (cN ((-1))))] ret))))
theorem FK:Is Tryz.prog 148 Gm:=mkI Tryz.func148
def FL:F2:=(F2.mk 38 [RV.cn 3 2] (ac [cO 2 (box (t 0)),cO 3 (alloc (AV.agg [AV.esl,AV.esl]))] ((ac [cO 4 (mov (cN 0))] (block 0 ((ac [aa 7 4,bW 8 0 2,aF 9 8,bj 10 9,aO 11 .lss 7 10] (au 11 skip (exit 0))).seq (block 1 ((mixS 9 [aF 13 1,bW 14 0 2,aF 15 14,aa 16 4,cO 17 (ixaS 1 (t 15) (t 16)),aF 18 17,cO 19 (Ins.mget (one int) (AV.agg [AV.esl,AV.esl]) true (t 13) (t 18)),aa 12 19,bI 20 12 0,bI 21 12 1,cO 5 (alloc (AV.agg [AV.esl,AV.esl])),bG 2 5 20,aa 6 21] [(0,0),(1,0),(2,0),(3,0),(4,0),(5,0),(6,4),(7,0),(8,0),(9,0),(10,1),(11,2),(12,0)]).seq ((ac [aa 22 6,cO 23 (un UnOp.not (t 22))] (au 23 (ac [aa 24 4,aq 25 .add 24 1,aa 4 25] (exit 1)) skip)).seq (mixS 1 [bW 26 0 2,aF 27 26,bW 28 0 5,aF 29 28,a6 30 124 [t 27,t 29],bW 31 1 2,aF 32 31,bW 33 1 5,aF 34 33,a6 35 124 [t 32,t 34],cO 36 (bld [AV.esl,AV.esl] [(0,1,t 30),(1,1,t 35)]),bG 2 2 36] [(0,0),(1,0),(2,0),(3,0),(5,0),(6,0),(7,0),(8,0),(4,1),(9,2),(10,0),(11,2)]))))).loop)).seq (ac [bP 37 2 2,bG 2 3 37] ret))))
theorem EZ:Is Tryz.prog 149 FL:=mkI Tryz.func149
def GM:F2:=(F2.mk 8 [RV.t 2] (ac [cO 2 (mov (c AV.esl))] ((ac [aa 3 0,cO 4 (snil false (t 3))] (au 4 (ac [cO 2 (mov (c AV.esl))] ret) skip)).seq (ac [cO 5 (bldS 1 0 [bt] []),aa 6 0,cO 7 (app 1 8 (t 5) (t 6)),aa 2 7] ret))))
theorem Gs:Is Tryz.prog 150 GM:=mkI Tryz.func150
def Gk:F2:=(F2.mk 18 [RV.t 2] (ac [cO 2 (mov (cN 0))] (ac [cO 3 (mov (cN 0))] ((ac [aa 6 0,bj 7 6,cO 8 (mov (cN 0))] (block 0 (ac [aO 9 .lss 8 7] ((au 9 skip (exit 0)).seq ((block 1 (ac [cO 10 (ixaS 1 (t 6) (t 8)),aF 11 10,aa 5 11] (ac [aa 12 5,aa 13 3,aO 14 .neq 12 13] (au 14 (ac [aa 15 5,aa 2 15] ret) skip)))).seq (ops 0 [aq 16 .add 8 1,aa 8 16])))).loop)).seq (ac [aa 17 3,aa 2 17] ret)))))
theorem E5:Is Tryz.prog 151 Gk:=mkI Tryz.func151
def Fb:F2:=(F2.mk 20 [RV.t 4] (ac [cO 4 (mov (cN 0))] (ac [aa 7 0,a6 8 165 [t 7],aa 5 8] (ac [aa 9 1,a6 10 165 [t 9],aa 6 10] ((ac [aa 11 5] (au 11 ((ac [aa 12 6] (au 12 (ac [cO 4 (mov (cN 0))] ret) skip)).seq (ac [cO 4 (mov (cN ((-1))))] ret)) skip)).seq ((ac [aa 13 6] (au 13 (ac [cO 4 (mov (cN 1))] ret) skip)).seq ((ac [aa 14 0,aa 15 1,aO 16 .lss 14 15] (au 16 (ac [cO 4 (mov (cN ((-1))))] ret) skip)).seq ((ac [aa 17 0,aa 18 1,aO 19 .gtr 17 18] (au 19 (ac [cO 4 (mov (cN 1))] ret) skip)).seq (ac [cO 4 (mov (cN 0))] ret)))))))))
theorem FB:Is Tryz.prog 152 Fb:=mkI Tryz.func152
def GQ:F2:=(F2.mk 21 [RV.t 2] (ac [cO 1 (box (t 0)),cO 2 (mov bm)] (ac [bW 3 0 1,aF 4 3,aq 5 .geq 4 0,aa 6 5,ap 7 6 (fa 0 (t 1)),ap 8 6 (cD 7),ap 9 6 (cB .lss (t 8) (cN 8)),cO 10 (pick (t 6) (t 9) bm),aa 11 10,ap 12 11 (fa 1 (t 1)),ap 13 11 (cD 12),ap 14 11 (cB .geq (t 13) (cN 0)),cO 15 (pick (t 11) (t 14) bm),aa 16 15,ap 17 16 (fa 1 (t 1)),ap 18 16 (cD 17),ap 19 16 (cB .leq (t 18) (cN 1048576)),cO 20 (pick (t 16) (t 19) bm),aa 2 20] ret)))
theorem G9:Is Tryz.prog 153 GQ:=mkI Tryz.func153
def Fe:F2:=(F2.mk 27 [] (ac [aF 4 1,bj 5 4,cO 6 (mov (cN 0))] (block 0 (ac [aO 7 .lss 6 5] ((au 7 skip (exit 0)).seq ((block 1 (ac [aa 8 6,aa 3 8] ((mixS 1 [aF 9 1,bj 10 9,aq 11 .gtr 10 1,aa 12 11,ap 13 12 (cM 0),ap 14 12 (cD 1),ap 15 12 (cM 3),ap 16 12 (sls 2 (t 14) none (some (t 15)) none),ap 17 12 (cD 1),ap 18 12 (cM 3),ap 19 12 (cB .add (t 18) (cN 1)),ap 20 12 (sls 2 (t 17) (some (t 19)) none none),ap 21 12 (bldS 1 2 [AV.esl] [(0,1,t 16),(1,1,t 20)]),ap 22 12 (call (cF 141) [t 21]),ap 23 12 (call (t 13) [t 22]),ap 24 12 (un UnOp.not (t 23)),cO 25 (pick (t 12) (t 24) bm)] [(0,0),(1,0),(2,0),(3,0),(4,0),(5,0),(6,0),(7,0),(8,0),(9,0),(10,0),(11,0),(12,2),(13,2),(14,2),(15,0),(16,0)]).seq (au 25 ret skip)))).seq (ops 0 [aq 26 .add 6 1,aa 6 26])))).loop)))
theorem E6:Is Tryz.prog 154 Fe:=mkI Tryz.func154
def D8:F2:=(F2.mk 148 [] (ac [cO 10 (mov d6)] (ac [cO 11 (mov d6)] (block 0 (block 1 (ac [aa 21 2,aa 22 1,aO 23 .sub 21 22,aa 12 23] ((ac [aa 24 12,aq 25 .leq 24 12] (au 25 (ac [aa 26 0,aa 27 1,aa 28 2,aa 29 4,a6 30 166 [t 26,t 27,t 28,t 29]] ret) skip)).seq ((ac [aa 31 3,aq 32 .eql 31 0] (au 32 (ac [aa 33 0,aa 34 1,aa 35 2,aa 36 4,a6 37 167 [t 33,t 34,t 35,t 36]] ret) skip)).seq ((ac [aa 38 10,cO 39 (un UnOp.not (t 38))] (au 39 (ac [aa 40 0,aa 41 1,aa 42 2,aa 43 4,a6 44 168 [t 40,t 41,t 42,t 43]] (ops 0 [aa 45 3,aq 46 .sub 45 1,aa 3 46])) skip)).seq (ac [aa 48 0,aa 49 1,aa 50 2,aa 51 4,a6 52 169 [t 48,t 49,t 50,t 51],aa 47 52,bI 53 47 0,bI 54 47 1,aa 13 53,aa 14 54] ((ac [aa 55 14,aq 56 .eql 55 2] (au 56 (ac [aa 57 0,aa 58 1,aa 59 2,aa 60 4,a6 61 170 [t 57,t 58,t 59,t 60]] (ac [aa 62 2,aq 63 .sub 62 1,aa 64 13,aa 65 1,aO 66 .sub 64 65,aO 67 .sub 63 66,aa 13 67] (ops 0 [cO 14 (mov (cN 1))]))) skip)).seq ((ac [aa 68 10,aa 69 68,ap 70 69 (cM 11),cO 71 (pick (t 69) (t 70) bm),aa 72 71,ap 73 72 (cM 14),ap 74 72 (cB .eql (t 73) (cN 1)),cO 75 (pick (t 72) (t 74) bm)] (au 75 (ac [aa 76 0,aa 77 1,aa 78 2,aa 79 4,a6 80 171 [t 76,t 77,t 78,t 79]] (au 80 ret skip)) skip)).seq (((mixS 1 [aa 81 1,aq 82 .gtr 81 0,aa 83 82,ap 84 83 (cM 4),ap 85 83 (cM 0),ap 86 83 (cM 1),ap 87 83 (cB .sub (t 86) (cN 1)),ap 88 83 (ixaS 1 (t 85) (t 87)),ap 89 83 (cD 88),ap 90 83 (cM 0),ap 91 83 (cM 13),ap 92 83 (ixaS 1 (t 90) (t 91)),ap 93 83 (cD 92),ap 94 83 (call (t 84) [t 89,t 93]),ap 95 83 (cB .lss (t 94) (cN 0)),ap 96 83 (un UnOp.not (t 95)),cO 97 (pick (t 83) (t 96) bm)] [(0,0),(1,0),(2,0),(3,0),(4,0),(5,0),(6,0),(7,0),(8,0),(9,0),(10,0),(11,0),(12,0),(13,2),(14,0),(15,0),(16,0)]).seq (au 97 (ac [aa 98 0,aa 99 1,aa 100 2,aa 101 13,aa 102 4,a6 103 172 [t 98,t 99,t 100,t 101,t 102],aa 15 103] (ac [aa 104 15,aa 1 104] (exit 1))) skip)).seq (ac [aa 106 0,aa 107 1,aa 108 2,aa 109 13,aa 110 4,a6 111 173 [t 106,t 107,t 108,t 109,t 110],aa 105 111,bI 112 105 0,bI 113 105 1,aa 16 112,aa 17 113] (ac [aa 114 17,aa 11 114] (ac [aa 115 16,aa 116 1,aO 117 .sub 115 116,aa 118 2,aa 119 16,aO 120 .sub 118 119,aa 18 117,aa 19 120] (ac [aa 121 12,aq 122 .quo 121 8,aa 20 122] (ac [aa 123 18,aa 124 19,aO 125 .lss 123 124] (au 125 (ac [aa 126 18,aa 127 20,aO 128 .geq 126 127,aa 10 128] (ac [aa 129 0,aa 130 1,aa 131 16,aa 132 3,aa 133 4,a6 134 155 [t 129,t 130,t 131,t 132,t 133]] (ops 0 [aa 135 16,aq 136 .add 135 1,aa 1 136]))) (ac [aa 137 19,aa 138 20,aO 139 .geq 137 138,aa 10 139] (ac [aa 140 0,aa 141 16,aq 142 .add 141 1,aa 143 2,aa 144 3,aa 145 4,a6 146 155 [t 140,t 142,t 143,t 144,t 145]] (ops 0 [aa 147 16,aa 2 147])))))))))))))))))).loop))))
theorem Dz:Is Tryz.prog 155 D8:=mkI Tryz.func155
def DP:F2:=(F2.mk 8 [RV.t 2] (ac [cO 2 (mov (cN 0))] ((C2.cond bm (ac [aa 3 0,cO 4 (conv IntKind.u32 (t 3)),a6 5 174 [t 4],aa 2 5] ret) skip).seq (ac [aa 6 0,a6 7 175 [t 6],aa 2 7] ret))))
theorem Dl:Is Tryz.prog 156 DP:=mkI Tryz.func156
def G8:F2:=(F2.mk 21 [RV.t 4] (ac [cO 4 (mov bm)] ((mixS 1 [aF 5 1,aa 6 0,cO 7 (ixaS 1 (t 5) (t 6)),aF 8 7,bj 9 8,aF 10 2,bj 11 10,aO 12 .gtr 9 11,aa 13 12,ap 14 13 (cD 2),ap 15 13 (cD 1),ap 16 13 (cM 0),ap 17 13 (ixaS 1 (t 15) (t 16)),ap 18 13 (cD 17),ap 19 13 (call (cF 158) [t 14,t 18]),cO 20 (pick (t 13) (t 19) bm),aa 4 20] [(0,0),(1,0),(2,0),(3,0),(4,0),(5,0),(6,0),(7,0),(8,0),(9,0),(10,0),(11,0),(12,0),(13,0),(14,2),(15,0),(16,0)]).seq ret)))
theorem GV:Is Tryz.prog 157 G8:=mkI Tryz.func157
def G7:F2:=(F2.mk 29 [RV.t 4] (ac [cO 4 (mov bm)] ((ac [aa 7 0,bj 8 7,cO 9 (mov (cN 0))] (block 0 (ac [aO 10 .lss 9 8] ((au 10 skip (exit 0)).seq ((block 1 (ac [cO 11 (ixaS 2 (t 7) (t 9)),bP 12 2 11,cO 6 (alloc (AV.agg [bt,bt])),bG 2 6 12] ((block 2 (((ops 1 [aa 13 1,bj 14 13,aq 15 .gtr 14 0,aa 16 15,ap 17 16 (cM 1),ap 18 16 (ixaS 2 (t 17) (cN 0)),ap 19 16 (ldn 2 (t 18)),ap 20 16 (ldn 2 (t 6)),ap 21 16 (binS BinOp.neq [int,int] (t 19) (t 20)),cO 22 (pick (t 16) (t 21) bm)]).seq (au 22 skip (exit 2))).seq (block 3 (ops 0 [aa 23 1,cO 24 (sls 2 (t 23) (some (cN 1)) none none),aa 1 24]))).loop).seq (ac [aa 25 1,bj 26 25,aq 27 .eql 26 0] (au 27 (ac [cO 4 (mov bm)] ret) skip))))).seq (ops 0 [aq 28 .add 9 1,aa 9 28])))).loop)).seq (ac [cO 4 (mov d6)] ret))))
theorem Gg:Is Tryz.prog 158 G7:=mkI Tryz.func158
def FY:F2:=(F2.mk 5 [RV.t 2] (ac [cO 2 (mov (c AV.esl))] (ac [aa 3 0,a6 4 176 [c AV.esl,t 3],aa 2 4] ret)))
theorem G0:Is Tryz.prog 159 FY:=mkI Tryz.func159
def Hm:F2:=(F2.mk 6 [RV.t 4] (ac [cO 2 (box (t 0)),cO 3 (box (t 1)),cO 4 (mov (c AV.nilf))] (ac [cO 5 (mkfn 177 [t 3,t 2]),aa 4 5] ret)))
theorem GB:Is Tryz.prog 160 Hm:=mkI Tryz.func160
def GO:F2:=(F2.mk 27 [RV.t 4] (ac [cO 4 (mov (c AV.esl))] ((ac [aa 5 1,aq 6 .lss 5 0] (au 6 (ops 0 [cO 7 dead,Op2.mk none none dead]) skip)).seq ((ac [aa 8 1,aa 9 0,cO 10 (capE (t 9)),aa 11 0,bj 12 11,aO 13 .sub 10 12,aO 14 .sub 8 13,aa 1 14] (ac [aa 15 1,aq 16 .gtr 15 0] (au 16 (ops 0 [aa 17 0,aa 18 0,cO 19 (capE (t 18)),cO 20 (sls 2 (t 17) none (some (t 19)) none),aa 21 1,cO 22 (apz 2 16 [bt,bt] (t 20) (t 21)),aa 23 0,bj 24 23,cO 25 (sls 2 (t 22) none (some (t 24)) none),aa 0 25]) skip))).seq (ac [aa 26 0,aa 4 26] ret)))))
theorem GA:Is Tryz.prog 161 GO:=mkI Tryz.func161
def Gi:F2:=(F2.mk 54 [RV.t 4,RV.t 5] (ac [cO 4 (mov (cN 0)),cO 5 (mov bm)] (ac [aa 10 0,bj 11 10,aa 6 11] (ac [aa 12 6,cO 7 (mov (cN 0)),aa 8 12] ((block 0 ((ac [aa 13 7,aa 14 8,aO 15 .lss 13 14] (au 15 skip (exit 0))).seq (block 1 (ac [aa 16 7,aa 17 8,aO 18 .add 16 17,cO 19 (conv IntKind.u64 (t 18)),cO 20 (cB .shr (t 19) (c (AV.int IntKind.u64 (1)))),cO 21 (conv IntKind.i64 (t 20)),aa 9 21] (ac [aa 22 0,aa 23 9,cO 24 (ixaS 1 (t 22) (t 23)),aF 25 24,aa 26 1,a6 27 187 [t 25,t 26]] (au 27 (ops 0 [aa 28 9,aq 29 .add 28 1,aa 7 29]) (ops 0 [aa 30 9,aa 8 30])))))).loop).seq (ac [aa 31 7,aa 32 7,aa 33 6,aO 34 .lss 32 33,aa 35 34,ap 36 35 (cM 0),ap 37 35 (cM 7),ap 38 35 (ixaS 1 (t 36) (t 37)),ap 39 35 (cD 38),ap 40 35 (cM 1),ap 41 35 (cB .eql (t 39) (t 40)),ap 42 35 (cM 41),bX 43 42 (cM 0),bX 44 42 (cM 7),bX 45 42 (ixaS 1 (t 43) (t 44)),bX 46 42 (cD 45),bX 47 42 (call (cF 188) [t 46]),bX 48 42 (cM 47),ap 49 48 (cM 1),ap 50 48 (call (cF 188) [t 49]),bX 51 42 (pick (t 48) (t 50) bm),ap 52 35 (pick (t 42) d6 (t 51)),cO 53 (pick (t 35) (t 52) bm),aa 4 31,aa 5 53] ret))))))
theorem FC:Is Tryz.prog 163 Gi:=mkI Tryz.func163
def Hi:F2:=(F2.mk 6 [RV.t 2] (ac [cO 2 (mov bm)] (ac [aa 3 0,aa 4 0,aO 5 .neq 3 4,aa 2 5] ret)))
theorem Fk:Is Tryz.prog 165 Hi:=mkI Tryz.func165
def DD:F2:=(F2.mk 53 [] (ac [aa 10 1,aq 11 .add 10 1,aa 8 11] (block 0 ((ac [aa 12 8,aa 13 2,aO 14 .lss 12 13] (au 14 skip (exit 0))).seq ((block 1 (ac [aa 17 8,aa 9 17] (block 2 (((mixS 1 [aa 18 9,aa 19 1,aO 20 .gtr 18 19,aa 21 20,ap 22 21 (cM 3),ap 23 21 (cM 0),ap 24 21 (cM 9),ap 25 21 (ixaS 1 (t 23) (t 24)),ap 26 21 (cD 25),ap 27 21 (cM 0),ap 28 21 (cM 9),ap 29 21 (cB .sub (t 28) (cN 1)),ap 30 21 (ixaS 1 (t 27) (t 29)),ap 31 21 (cD 30),ap 32 21 (call (t 22) [t 26,t 31]),ap 33 21 (cB .lss (t 32) (cN 0)),cO 34 (pick (t 21) (t 33) bm)] [(0,0),(1,0),(2,0),(3,0),(4,0),(5,0),(6,0),(7,0),(8,0),(9,0),(10,0),(11,0),(12,0),(13,0),(14,2),(15,0),(16,0)]).seq (au 34 skip (exit 2))).seq ((block 3 (ops 1 [aa 37 0,aa 38 9,aa 39 0,aa 40 9,aq 41 .sub 40 1,aa 42 0,aa 43 9,aq 44 .sub 43 1,cO 45 (ixaS 1 (t 42) (t 44)),aF 46 45,aa 47 0,aa 48 9,cO 49 (ixaS 1 (t 47) (t 48)),aF 50 49,cO 51 (ixaS 1 (t 37) (t 38)),bG 1 51 46,cO 52 (ixaS 1 (t 39) (t 41)),bG 1 52 50])).seq (ops 0 [aa 35 9,aq 36 .sub 35 1,aa 9 36]))).loop))).seq (ops 0 [aa 15 8,aq 16 .add 15 1,aa 8 16]))).loop)))
theorem Di:Is Tryz.prog 166 DD:=mkI Tryz.func166
def ET:F2:=(F2.mk 60 [] (ac [aa 13 1,aa 8 13] (ac [cO 9 (mov (cN 0))] (ac [aa 14 2,aa 15 1,aO 16 .sub 14 15,aa 10 16] ((ac [aa 17 10,aq 18 .sub 17 1,aq 19 .quo 18 2,aa 11 19] (block 0 ((ac [aa 20 11,aq 21 .geq 20 0] (au 21 skip (exit 0))).seq ((block 1 (ops 0 [aa 24 0,aa 25 11,aa 26 10,aa 27 8,aa 28 3,a6 29 197 [t 24,t 25,t 26,t 27,t 28]])).seq (ops 0 [aa 22 11,aq 23 .sub 22 1,aa 11 23]))).loop)).seq (ac [aa 30 10,aq 31 .sub 30 1,aa 12 31] (block 2 ((ac [aa 32 12,aq 33 .geq 32 0] (au 33 skip (exit 2))).seq ((block 3 ((ops 1 [aa 36 0,aa 37 8,aa 38 0,aa 39 8,aa 40 12,aO 41 .add 39 40,aa 42 0,aa 43 8,aa 44 12,aO 45 .add 43 44,cO 46 (ixaS 1 (t 42) (t 45)),aF 47 46,aa 48 0,aa 49 8,cO 50 (ixaS 1 (t 48) (t 49)),aF 51 50,cO 52 (ixaS 1 (t 36) (t 37)),bG 1 52 47,cO 53 (ixaS 1 (t 38) (t 41)),bG 1 53 51]).seq (ops 0 [aa 54 0,aa 55 9,aa 56 12,aa 57 8,aa 58 3,a6 59 197 [t 54,t 55,t 56,t 57,t 58]]))).seq (ops 0 [aa 34 12,aq 35 .sub 34 1,aa 12 35]))).loop)))))))
theorem FT:Is Tryz.prog 167 ET:=mkI Tryz.func167
def He:F2:=(F2.mk 67 [] (ac [aa 13 2,aa 14 1,aO 15 .sub 13 14,aa 8 15] (ac [aa 16 8,aq 17 .geq 16 8] (au 17 (ac [aa 18 8,cO 19 (conv IntKind.u64 (t 18)),cO 9 (alloc (AV.int IntKind.u64 (0))),bG 1 9 19] (ac [aa 20 8,a6 21 198 [t 20],aa 10 21] (ac [aa 22 1,aa 23 8,aq 24 .quo 23 4,aq 25 .mul 24 2,aO 26 .add 22 25,aq 27 .sub 26 1,aa 11 27] (block 0 ((ac [aa 28 11,aa 29 1,aa 30 8,aq 31 .quo 30 4,aq 32 .mul 31 2,aO 33 .add 29 32,aq 34 .add 33 1,aO 35 .leq 28 34] (au 35 skip (exit 0))).seq ((block 1 (ac [a6 38 199 [t 9],aa 39 10,cO 40 (cB .sub (t 39) (c (AV.int IntKind.u64 (1)))),aO 41 .and 38 40,cO 42 (conv IntKind.i64 (t 41)),aa 12 42] ((ac [aa 43 12,aa 44 8,aO 45 .geq 43 44] (au 45 (ops 0 [aa 46 12,aa 47 8,aO 48 .sub 46 47,aa 12 48]) skip)).seq (ops 1 [aa 49 0,aa 50 11,aa 51 0,aa 52 1,aa 53 12,aO 54 .add 52 53,aa 55 0,aa 56 1,aa 57 12,aO 58 .add 56 57,cO 59 (ixaS 1 (t 55) (t 58)),aF 60 59,aa 61 0,aa 62 11,cO 63 (ixaS 1 (t 61) (t 62)),aF 64 63,cO 65 (ixaS 1 (t 49) (t 50)),bG 1 65 60,cO 66 (ixaS 1 (t 51) (t 54)),bG 1 66 64])))).seq (ops 0 [aa 36 11,aq 37 .add 36 1,aa 11 37]))).loop)))) skip))))
theorem Fj:Is Tryz.prog 168 He:=mkI Tryz.func168
def Fv:F2:=(F2.mk 63 [RV.t 8,RV.t 9] (ac [cO 8 (mov (cN 0)),cO 9 (mov (cN 0))] (ac [aa 15 2,aa 16 1,aO 17 .sub 15 16,aa 10 17] (ac [cO 11 (alloc (bt))] (ac [aa 18 1,aa 19 10,aq 20 .quo 19 4,aq 21 .mul 20 1,aO 22 .add 18 21,aa 12 22] (ac [aa 23 1,aa 24 10,aq 25 .quo 24 4,aq 26 .mul 25 2,aO 27 .add 23 26,aa 13 27] (ac [aa 28 1,aa 29 10,aq 30 .quo 29 4,aq 31 .mul 30 3,aO 32 .add 28 31,aa 14 32] ((ac [aa 33 10,aq 34 .geq 33 8] (au 34 ((ac [aa 35 10,aq 36 .geq 35 50] (au 36 (ac [aa 37 0,aa 38 12,aa 39 3,a6 40 200 [t 37,t 38,t 11,t 39],aa 12 40] (ac [aa 41 0,aa 42 13,aa 43 3,a6 44 200 [t 41,t 42,t 11,t 43],aa 13 44] (ops 0 [aa 45 0,aa 46 14,aa 47 3,a6 48 200 [t 45,t 46,t 11,t 47],aa 14 48]))) skip)).seq (ops 0 [aa 49 0,aa 50 12,aa 51 13,aa 52 14,aa 53 3,a6 54 201 [t 49,t 50,t 51,t 52,t 11,t 53],aa 13 54])) skip)).seq (ac [aF 55 11] (block 0 (ac [aq 58 .eql 55 0,aa 57 58] (au 57 (ac [aa 59 13,aa 8 59,cO 9 (mov (cN 1))] ret) (ac [aq 61 .eql 55 12,aa 60 61] (au 60 (ac [aa 62 13,aa 8 62,cO 9 (mov (cN 2))] ret) (ac [aa 56 13,aa 8 56,cO 9 (mov (cN 0))] ret)))))))))))))))
theorem FP:Is Tryz.prog 169 Fv:=mkI Tryz.func169
def Gr:F2:=(F2.mk 34 [] (ac [aa 10 1,aa 8 10] (ac [aa 11 2,aq 12 .sub 11 1,aa 9 12] (block 0 ((ac [aa 13 8,aa 14 9,aO 15 .lss 13 14] (au 15 skip (exit 0))).seq (block 1 ((ops 1 [aa 16 0,aa 17 8,aa 18 0,aa 19 9,aa 20 0,aa 21 9,cO 22 (ixaS 1 (t 20) (t 21)),aF 23 22,aa 24 0,aa 25 8,cO 26 (ixaS 1 (t 24) (t 25)),aF 27 26,cO 28 (ixaS 1 (t 16) (t 17)),bG 1 28 23,cO 29 (ixaS 1 (t 18) (t 19)),bG 1 29 27]).seq (ac [aa 30 8,aq 31 .add 30 1,aa 8 31] (ops 0 [aa 32 9,aq 33 .sub 32 1,aa 9 33]))))).loop))))
theorem GD:Is Tryz.prog 170 Gr:=mkI Tryz.func170
def Gz:F2:=(F2.mk 141 [RV.t 8] (ac [cO 8 (mov bm)] (ac [aa 13 1,aq 14 .add 13 1,aa 9 14] ((ac [cO 10 (mov (cN 0))] (block 0 ((ac [aa 15 10,aq 16 .lss 15 5] (au 16 skip (exit 0))).seq ((block 1 ((block 2 (((mixS 1 [aa 19 9,aa 20 2,aO 21 .lss 19 20,aa 22 21,ap 23 22 (cM 3),ap 24 22 (cM 0),ap 25 22 (cM 9),ap 26 22 (ixaS 1 (t 24) (t 25)),ap 27 22 (cD 26),ap 28 22 (cM 0),ap 29 22 (cM 9),ap 30 22 (cB .sub (t 29) (cN 1)),ap 31 22 (ixaS 1 (t 28) (t 30)),ap 32 22 (cD 31),ap 33 22 (call (t 23) [t 27,t 32]),ap 34 22 (cB .lss (t 33) (cN 0)),ap 35 22 (un UnOp.not (t 34)),cO 36 (pick (t 22) (t 35) bm)] [(0,0),(1,0),(2,0),(3,0),(4,0),(5,0),(6,0),(7,0),(8,0),(9,0),(10,0),(11,0),(12,0),(13,0),(14,2),(15,0),(16,0),(17,0)]).seq (au 36 skip (exit 2))).seq (block 3 (ops 0 [aa 37 9,aq 38 .add 37 1,aa 9 38]))).loop).seq ((ac [aa 39 9,aa 40 2,aO 41 .eql 39 40] (au 41 (ac [cO 8 (mov d6)] ret) skip)).seq ((ac [aa 42 2,aa 43 1,aO 44 .sub 42 43,aq 45 .lss 44 50] (au 45 (ac [cO 8 (mov bm)] ret) skip)).seq ((ops 1 [aa 46 0,aa 47 9,aa 48 0,aa 49 9,aq 50 .sub 49 1,aa 51 0,aa 52 9,aq 53 .sub 52 1,cO 54 (ixaS 1 (t 51) (t 53)),aF 55 54,aa 56 0,aa 57 9,cO 58 (ixaS 1 (t 56) (t 57)),aF 59 58,cO 60 (ixaS 1 (t 46) (t 47)),bG 1 60 55,cO 61 (ixaS 1 (t 48) (t 50)),bG 1 61 59]).seq ((ac [aa 62 9,aa 63 1,aO 64 .sub 62 63,aq 65 .geq 64 2] (au 65 (ac [aa 66 9,aq 67 .sub 66 1,aa 11 67] (block 4 ((ac [aa 68 11,aq 69 .geq 68 1] (au 69 skip (exit 4))).seq ((block 5 (((mixS 1 [aa 72 3,aa 73 0,aa 74 11,cO 75 (ixaS 1 (t 73) (t 74)),aF 76 75,aa 77 0,aa 78 11,aq 79 .sub 78 1,cO 80 (ixaS 1 (t 77) (t 79)),aF 81 80,cO 82 (call (t 72) [t 76,t 81]),aq 83 .lss 82 0,cO 84 (un UnOp.not (t 83))] [(0,0),(1,0),(2,0),(3,0),(4,0),(5,0),(6,0),(7,0),(8,0),(9,0),(10,2),(11,0),(12,0)]).seq (au 84 (exit 4) skip)).seq (ops 1 [aa 85 0,aa 86 11,aa 87 0,aa 88 11,aq 89 .sub 88 1,aa 90 0,aa 91 11,aq 92 .sub 91 1,cO 93 (ixaS 1 (t 90) (t 92)),aF 94 93,aa 95 0,aa 96 11,cO 97 (ixaS 1 (t 95) (t 96)),aF 98 97,cO 99 (ixaS 1 (t 85) (t 86)),bG 1 99 94,cO 100 (ixaS 1 (t 87) (t 89)),bG 1 100 98]))).seq (ops 0 [aa 70 11,aq 71 .sub 70 1,aa 11 71]))).loop)) skip)).seq (ac [aa 101 2,aa 102 9,aO 103 .sub 101 102,aq 104 .geq 103 2] (au 104 (ac [aa 105 9,aq 106 .add 105 1,aa 12 106] (block 6 ((ac [aa 107 12,aa 108 2,aO 109 .lss 107 108] (au 109 skip (exit 6))).seq ((block 7 (((mixS 1 [aa 112 3,aa 113 0,aa 114 12,cO 115 (ixaS 1 (t 113) (t 114)),aF 116 115,aa 117 0,aa 118 12,aq 119 .sub 118 1,cO 120 (ixaS 1 (t 117) (t 119)),aF 121 120,cO 122 (call (t 112) [t 116,t 121]),aq 123 .lss 122 0,cO 124 (un UnOp.not (t 123))] [(0,0),(1,0),(2,0),(3,0),(4,0),(5,0),(6,0),(7,0),(8,0),(9,0),(10,2),(11,0),(12,0)]).seq (au 124 (exit 6) skip)).seq (ops 1 [aa 125 0,aa 126 12,aa 127 0,aa 128 12,aq 129 .sub 128 1,aa 130 0,aa 131 12,aq 132 .sub 131 1,cO 133 (ixaS 1 (t 130) (t 132)),aF 134 133,aa 135 0,aa 136 12,cO 137 (ixaS 1 (t 135) (t 136)),aF 138 137,cO 139 (ixaS 1 (t 125) (t 126)),bG 1 139 134,cO 140 (ixaS 1 (t 127) (t 129)),bG 1 140 138]))).seq (ops 0 [aa 110 12,aq 111 .add 110 1,aa 12 111]))).loop)) skip)))))))).seq (ops 0 [aa 17 10,aq 18 .add 17 1,aa 10 18]))).loop)).seq (ac [cO 8 (mov bm)] ret)))))
theorem Hk:Is Tryz.prog 171 Gz:=mkI Tryz.func171
def ER:F2:=(F2.mk 90 [RV.t 10] (ac [cO 10 (mov (cN 0))] ((ops 1 [aa 13 0,aa 14 1,aa 15 0,aa 16 3,aa 17 0,aa 18 3,cO 19 (ixaS 1 (t 17) (t 18)),aF 20 19,aa 21 0,aa 22 1,cO 23 (ixaS 1 (t 21) (t 22)),aF 24 23,cO 25 (ixaS 1 (t 13) (t 14)),bG 1 25 20,cO 26 (ixaS 1 (t 15) (t 16)),bG 1 26 24]).seq (ac [aa 27 1,aq 28 .add 27 1,aa 29 2,aq 30 .sub 29 1,aa 11 28,aa 12 30] ((block 0 (block 1 ((block 2 (((mixS 1 [aa 31 11,aa 32 12,aO 33 .leq 31 32,aa 34 33,ap 35 34 (cM 4),ap 36 34 (cM 0),ap 37 34 (cM 1),ap 38 34 (ixaS 1 (t 36) (t 37)),ap 39 34 (cD 38),ap 40 34 (cM 0),ap 41 34 (cM 11),ap 42 34 (ixaS 1 (t 40) (t 41)),ap 43 34 (cD 42),ap 44 34 (call (t 35) [t 39,t 43]),ap 45 34 (cB .lss (t 44) (cN 0)),ap 46 34 (un UnOp.not (t 45)),cO 47 (pick (t 34) (t 46) bm)] [(0,0),(1,0),(2,0),(3,0),(4,0),(5,0),(6,0),(7,0),(8,0),(9,0),(10,0),(11,0),(12,0),(13,2),(14,0),(15,0),(16,0)]).seq (au 47 skip (exit 2))).seq (block 3 (ops 0 [aa 48 11,aq 49 .add 48 1,aa 11 49]))).loop).seq ((block 4 (((mixS 1 [aa 50 11,aa 51 12,aO 52 .leq 50 51,aa 53 52,ap 54 53 (cM 4),ap 55 53 (cM 0),ap 56 53 (cM 1),ap 57 53 (ixaS 1 (t 55) (t 56)),ap 58 53 (cD 57),ap 59 53 (cM 0),ap 60 53 (cM 12),ap 61 53 (ixaS 1 (t 59) (t 60)),ap 62 53 (cD 61),ap 63 53 (call (t 54) [t 58,t 62]),ap 64 53 (cB .lss (t 63) (cN 0)),cO 65 (pick (t 53) (t 64) bm)] [(0,0),(1,0),(2,0),(3,0),(4,0),(5,0),(6,0),(7,0),(8,0),(9,0),(10,0),(11,0),(12,0),(13,2),(14,0),(15,0)]).seq (au 65 skip (exit 4))).seq (block 5 (ops 0 [aa 66 12,aq 67 .sub 66 1,aa 12 67]))).loop).seq ((ac [aa 68 11,aa 69 12,aO 70 .gtr 68 69] (au 70 (exit 0) skip)).seq ((ops 1 [aa 71 0,aa 72 11,aa 73 0,aa 74 12,aa 75 0,aa 76 12,cO 77 (ixaS 1 (t 75) (t 76)),aF 78 77,aa 79 0,aa 80 11,cO 81 (ixaS 1 (t 79) (t 80)),aF 82 81,cO 83 (ixaS 1 (t 71) (t 72)),bG 1 83 78,cO 84 (ixaS 1 (t 73) (t 74)),bG 1 84 82]).seq (ac [aa 85 11,aq 86 .add 85 1,aa 11 86] (ops 0 [aa 87 12,aq 88 .sub 87 1,aa 12 88]))))))).loop).seq (ac [aa 89 11,aa 10 89] ret))))))
theorem Fp:Is Tryz.prog 172 ER:=mkI Tryz.func172
def EM:F2:=(F2.mk 178 [RV.t 10,RV.t 11] (ac [cO 10 (mov (cN 0)),cO 11 (mov bm)] ((ops 1 [aa 14 0,aa 15 1,aa 16 0,aa 17 3,aa 18 0,aa 19 3,cO 20 (ixaS 1 (t 18) (t 19)),aF 21 20,aa 22 0,aa 23 1,cO 24 (ixaS 1 (t 22) (t 23)),aF 25 24,cO 26 (ixaS 1 (t 14) (t 15)),bG 1 26 21,cO 27 (ixaS 1 (t 16) (t 17)),bG 1 27 25]).seq (ac [aa 28 1,aq 29 .add 28 1,aa 30 2,aq 31 .sub 30 1,aa 12 29,aa 13 31] ((block 0 (((mixS 1 [aa 32 12,aa 33 13,aO 34 .leq 32 33,aa 35 34,ap 36 35 (cM 4),ap 37 35 (cM 0),ap 38 35 (cM 12),ap 39 35 (ixaS 1 (t 37) (t 38)),ap 40 35 (cD 39),ap 41 35 (cM 0),ap 42 35 (cM 1),ap 43 35 (ixaS 1 (t 41) (t 42)),ap 44 35 (cD 43),ap 45 35 (call (t 36) [t 40,t 44]),ap 46 35 (cB .lss (t 45) (cN 0)),cO 47 (pick (t 35) (t 46) bm)] [(0,0),(1,0),(2,0),(3,0),(4,0),(5,0),(6,0),(7,0),(8,0),(9,0),(10,0),(11,0),(12,0),(13,2),(14,0),(15,0)]).seq (au 47 skip (exit 0))).seq (block 1 (ops 0 [aa 48 12,aq 49 .add 48 1,aa 12 49]))).loop).seq ((block 2 (((mixS 1 [aa 50 12,aa 51 13,aO 52 .leq 50 51,aa 53 52,ap 54 53 (cM 4),ap 55 53 (cM 0),ap 56 53 (cM 13),ap 57 53 (ixaS 1 (t 55) (t 56)),ap 58 53 (cD 57),ap 59 53 (cM 0),ap 60 53 (cM 1),ap 61 53 (ixaS 1 (t 59) (t 60)),ap 62 53 (cD 61),ap 63 53 (call (t 54) [t 58,t 62]),ap 64 53 (cB .lss (t 63) (cN 0)),ap 65 53 (un UnOp.not (t 64)),cO 66 (pick (t 53) (t 65) bm)] [(0,0),(1,0),(2,0),(3,0),(4,0),(5,0),(6,0),(7,0),(8,0),(9,0),(10,0),(11,0),(12,0),(13,2),(14,0),(15,0),(16,0)]).seq (au 66 skip (exit 2))).seq (block 3 (ops 0 [aa 67 13,aq 68 .sub 67 1,aa 13 68]))).loop).seq ((ac [aa 69 12,aa 70 13,aO 71 .gtr 69 70] (au 71 ((ops 1 [aa 72 0,aa 73 13,aa 74 0,aa 75 1,aa 76 0,aa 77 1,cO 78 (ixaS 1 (t 76) (t 77)),aF 79 78,aa 80 0,aa 81 13,cO 82 (ixaS 1 (t 80) (t 81)),aF 83 82,cO 84 (ixaS 1 (t 72) (t 73)),bG 1 84 79,cO 85 (ixaS 1 (t 74) (t 75)),bG 1 85 83]).seq (ac [aa 86 13,aa 10 86,cO 11 (mov d6)] ret)) skip)).seq ((ops 1 [aa 87 0,aa 88 12,aa 89 0,aa 90 13,aa 91 0,aa 92 13,cO 93 (ixaS 1 (t 91) (t 92)),aF 94 93,aa 95 0,aa 96 12,cO 97 (ixaS 1 (t 95) (t 96)),aF 98 97,cO 99 (ixaS 1 (t 87) (t 88)),bG 1 99 94,cO 100 (ixaS 1 (t 89) (t 90)),bG 1 100 98]).seq (ac [aa 101 12,aq 102 .add 101 1,aa 12 102] (ac [aa 103 13,aq 104 .sub 103 1,aa 13 104] ((block 4 (block 5 ((block 6 (((mixS 1 [aa 105 12,aa 106 13,aO 107 .leq 105 106,aa 108 107,ap 109 108 (cM 4),ap 110 108 (cM 0),ap 111 108 (cM 12),ap 112 108 (ixaS 1 (t 110) (t 111)),ap 113 108 (cD 112),ap 114 108 (cM 0),ap 115 108 (cM 1),ap 116 108 (ixaS 1 (t 114) (t 115)),ap 117 108 (cD 116),ap 118 108 (call (t 109) [t 113,t 117]),ap 119 108 (cB .lss (t 118) (cN 0)),cO 120 (pick (t 108) (t 119) bm)] [(0,0),(1,0),(2,0),(3,0),(4,0),(5,0),(6,0),(7,0),(8,0),(9,0),(10,0),(11,0),(12,0),(13,2),(14,0),(15,0)]).seq (au 120 skip (exit 6))).seq (block 7 (ops 0 [aa 121 12,aq 122 .add 121 1,aa 12 122]))).loop).seq ((block 8 (((mixS 1 [aa 123 12,aa 124 13,aO 125 .leq 123 124,aa 126 125,ap 127 126 (cM 4),ap 128 126 (cM 0),ap 129 126 (cM 13),ap 130 126 (ixaS 1 (t 128) (t 129)),ap 131 126 (cD 130),ap 132 126 (cM 0),ap 133 126 (cM 1),ap 134 126 (ixaS 1 (t 132) (t 133)),ap 135 126 (cD 134),ap 136 126 (call (t 127) [t 131,t 135]),ap 137 126 (cB .lss (t 136) (cN 0)),ap 138 126 (un UnOp.not (t 137)),cO 139 (pick (t 126) (t 138) bm)] [(0,0),(1,0),(2,0),(3,0),(4,0),(5,0),(6,0),(7,0),(8,0),(9,0),(10,0),(11,0),(12,0),(13,2),(14,0),(15,0),(16,0)]).seq (au 139 skip (exit 8))).seq (block 9 (ops 0 [aa 140 13,aq 141 .sub 140 1,aa 13 141]))).loop).seq ((ac [aa 142 12,aa 143 13,aO 144 .gtr 142 143] (au 144 (exit 4) skip)).seq ((ops 1 [aa 145 0,aa 146 12,aa 147 0,aa 148 13,aa 149 0,aa 150 13,cO 151 (ixaS 1 (t 149) (t 150)),aF 152 151,aa 153 0,aa 154 12,cO 155 (ixaS 1 (t 153) (t 154)),aF 156 155,cO 157 (ixaS 1 (t 145) (t 146)),bG 1 157 152,cO 158 (ixaS 1 (t 147) (t 148)),bG 1 158 156]).seq (ac [aa 159 12,aq 160 .add 159 1,aa 12 160] (ops 0 [aa 161 13,aq 162 .sub 161 1,aa 13 162]))))))).loop).seq ((ops 1 [aa 163 0,aa 164 13,aa 165 0,aa 166 1,aa 167 0,aa 168 1,cO 169 (ixaS 1 (t 167) (t 168)),aF 170 169,aa 171 0,aa 172 13,cO 173 (ixaS 1 (t 171) (t 172)),aF 174 173,cO 175 (ixaS 1 (t 163) (t 164)),bG 1 175 170,cO 176 (ixaS 1 (t 165) (t 166)),bG 1 176 174]).seq (ac [aa 177 13,aa 10 177,cO 11 (mov bm)] ret)))))))))))))
theorem Hj:Is Tryz.prog 173 EM:=mkI Tryz.func173
def DB:F2:=(F2.mk 25 [RV.t 2] (ac [cO 2 (mov (cN 0))] ((ac [aa 3 0,cO 4 (cB .geq (t 3) (c (AV.int IntKind.u64 (4294967296))))] (au 4 (ac [aa 5 0,cO 6 (cB .shr (t 5) (c (AV.int IntKind.u64 (32)))),aa 0 6] (ops 0 [cO 2 (mov (cN 32))])) skip)).seq ((ac [aa 7 0,cO 8 (cB .geq (t 7) (c (AV.int IntKind.u64 (65536))))] (au 8 (ac [aa 9 0,cO 10 (cB .shr (t 9) (c (AV.int IntKind.u64 (16)))),aa 0 10] (ops 0 [aa 11 2,aq 12 .add 11 16,aa 2 12])) skip)).seq ((ac [aa 13 0,cO 14 (cB .geq (t 13) (c (AV.int IntKind.u64 (256))))] (au 14 (ac [aa 15 0,cO 16 (cB .shr (t 15) (c (AV.int IntKind.u64 (8)))),aa 0 16] (ops 0 [aa 17 2,aq 18 .add 17 8,aa 2 18])) skip)).seq (ac [aa 19 2,aa 20 0,cO 21 (conv IntKind.u8 (t 20)),cO 22 (ixStr (c (AV.str (ByteArray.mk (Array.mk [0,1,2,2,3,3,3,3,4,4,4,4,4,4,4,4,5,5,5,5,5,5,5,5,5,5,5,5,5,5,5,5,6,6,6,6,6,6,6,6,6,6,6,6,6,6,6,6,6,6,6,6,6,6,6,6,6,6,6,6,6,6,6,6,7,7,7,7,7,7,7,7,7,7,7,7,7,7,7,7,7,7,7,7,7,7,7,7,7,7,7,7,7,7,7,7,7,7,7,7,7,7,7,7,7,7,7,7,7,7,7,7,7,7,7,7,7,7,7,7,7,7,7,7,7,7,7,7,8,8,8,8,8,8,8,8,8,8,8,8,8,8,8,8,8,8,8,8,8,8,8,8,8,8,8,8,8,8,8,8,8,8,8,8,8,8,8,8,8,8,8,8,8,8,8,8,8,8,8,8,8,8,8,8,8,8,8,8,8,8,8,8,8,8,8,8,8,8,8,8,8,8,8,8,8,8,8,8,8,8,8,8,8,8,8,8,8,8,8,8,8,8,8,8,8,8,8,8,8,8,8,8,8,8,8,8,8,8,8,8,8,8,8,8,8,8,8,8,8,8,8,8,8,8,8,8])))) (t 21)),cO 23 (conv IntKind.i64 (t 22)),aO 24 .add 19 23,aa 2 24] ret))))))
theorem Dp:Is Tryz.prog 175 DB:=mkI Tryz.func175
def GW:F2:=(F2.mk 13 [RV.t 4] (ac [cO 2 (box (t 0)),cO 4 (mov (c AV.esl))] ((ac [aa 6 1] (block 0 (rangeF (t 6) [7] (ops 0 [aa 5 7]) (block 1 (ops 0 [aF 8 2,aa 9 5,cO 10 (bldS 1 1 [AV.esl] [(0,1,t 9)]),cO 11 (app 1 24 (t 8) (t 10)),bG 1 2 11]))))).seq (ac [aF 12 2,aa 4 12] ret))))
theorem Hc:Is Tryz.prog 176 GW:=mkI Tryz.func176
def FI:F2:=(F2.mk 10 [] (ac [cO 3 (box (t 0))] (ac [cO 4 (alloc AV.nilf)] (ac [cO 5 (mkfn 178 [t 1,t 3,t 2,t 4]),bG 1 4 5] (mixS 1 [aF 6 4,aF 7 1,cO 8 (mks 2 16 [bt,bt] (cN 0) (t 7)),cO 9 (call (t 6) [cN ((0)),t 8])] [(0,0),(1,0),(2,1),(3,2)])))))
theorem Gx:Is Tryz.prog 177 FI:=mkI Tryz.func177
def EC:F2:=(F2.mk 37 [RV.t 8] (ac [cO 8 (mov bm)] ((ac [aa 10 1,bj 11 10,aF 12 2,aO 13 .eql 11 12] (au 13 ((mixS 1 [aF 14 3,aa 15 1,a6 16 136 [t 15],cO 17 (call (t 14) [t 16]),aa 8 17] [(0,0),(1,0),(2,1),(3,2),(4,0)]).seq ret) skip)).seq ((ac [aa 18 0,aa 9 18] (block 0 ((ac [aa 19 9,aF 20 4,bj 21 20,aO 22 .lss 19 21] (au 22 skip (exit 0))).seq ((block 1 ((mixS 2 [aF 25 5,aa 26 9,aq 27 .add 26 1,aa 28 1,aF 29 4,aa 30 9,cO 31 (ixaS 2 (t 29) (t 30)),bP 32 2 31,cO 33 (bldS 2 1 [bt,bt] [(0,2,t 32)]),cO 34 (app 2 16 (t 28) (t 33)),cO 35 (call (t 25) [t 27,t 34]),cO 36 (un UnOp.not (t 35))] [(0,0),(1,0),(2,0),(3,0),(4,0),(5,0),(6,0),(7,0),(8,1),(9,1),(10,2),(11,0)]).seq (au 36 (ac [cO 8 (mov bm)] ret) skip))).seq (ops 0 [aa 23 9,aq 24 .add 23 1,aa 9 24]))).loop)).seq (ac [cO 8 (mov d6)] ret)))))
theorem Dd:Is Tryz.prog 178 EC:=mkI Tryz.func178
def Gy:F2:=(F2.mk 17 [RV.t 4] (ac [cO 4 (mov bm)] (ac [aa 5 0,a6 6 165 [t 5],aa 7 6,ap 8 7 (cM 1),ap 9 7 (call (cF 165) [t 8]),ap 10 7 (un UnOp.not (t 9)),cO 11 (pick (t 7) (t 10) bm),aa 12 11,bX 13 12 (cM 0),bX 14 12 (cM 1),bX 15 12 (cB .lss (t 13) (t 14)),cO 16 (pick (t 12) d6 (t 15)),aa 4 16] ret)))
theorem FV:Is Tryz.prog 187 Gy:=mkI Tryz.func187
def Gc:F2:=(F2.mk 6 [RV.t 2] (ac [cO 2 (mov bm)] (ac [aa 3 0,aa 4 0,aO 5 .neq 3 4,aa 2 5] ret)))
theorem Fi:Is Tryz.prog 188 Gc:=mkI Tryz.func188
def EX:F2:=(F2.mk 82 [] (ac [aa 12 1,aa 10 12] (block 0 (block 1 (ac [aa 13 10,cO 14 (cB .mul (cN 2) (t 13)),aq 15 .add 14 1,aa 11 15] ((ac [aa 16 11,aa 17 2,aO 18 .geq 16 17] (au 18 (exit 0) skip)).seq (((mixS 1 [aa 19 11,aq 20 .add 19 1,aa 21 2,aO 22 .lss 20 21,aa 23 22,ap 24 23 (cM 4),ap 25 23 (cM 0),ap 26 23 (cM 3),ap 27 23 (cM 11),ap 28 23 (cB .add (t 26) (t 27)),ap 29 23 (ixaS 1 (t 25) (t 28)),ap 30 23 (cD 29),ap 31 23 (cM 0),ap 32 23 (cM 3),ap 33 23 (cM 11),ap 34 23 (cB .add (t 32) (t 33)),ap 35 23 (cB .add (t 34) (cN 1)),ap 36 23 (ixaS 1 (t 31) (t 35)),ap 37 23 (cD 36),ap 38 23 (call (t 24) [t 30,t 37]),ap 39 23 (cB .lss (t 38) (cN 0)),cO 40 (pick (t 23) (t 39) bm)] [(0,0),(1,0),(2,0),(3,0),(4,0),(5,0),(6,0),(7,0),(8,0),(9,0),(10,0),(11,0),(12,0),(13,0),(14,0),(15,0),(16,0),(17,0),(18,0),(19,2),(20,0),(21,0)]).seq (au 40 (ops 0 [aa 41 11,aq 42 .add 41 1,aa 11 42]) skip)).seq (((mixS 1 [aa 43 4,aa 44 0,aa 45 3,aa 46 10,aO 47 .add 45 46,cO 48 (ixaS 1 (t 44) (t 47)),aF 49 48,aa 50 0,aa 51 3,aa 52 11,aO 53 .add 51 52,cO 54 (ixaS 1 (t 50) (t 53)),aF 55 54,cO 56 (call (t 43) [t 49,t 55]),aq 57 .lss 56 0,cO 58 (un UnOp.not (t 57))] [(0,0),(1,0),(2,0),(3,0),(4,0),(5,0),(6,0),(7,0),(8,0),(9,0),(10,0),(11,0),(12,0),(13,2),(14,0),(15,0)]).seq (au 58 ret skip)).seq ((ops 1 [aa 59 0,aa 60 3,aa 61 10,aO 62 .add 60 61,aa 63 0,aa 64 3,aa 65 11,aO 66 .add 64 65,aa 67 0,aa 68 3,aa 69 11,aO 70 .add 68 69,cO 71 (ixaS 1 (t 67) (t 70)),aF 72 71,aa 73 0,aa 74 3,aa 75 10,aO 76 .add 74 75,cO 77 (ixaS 1 (t 73) (t 76)),aF 78 77,cO 79 (ixaS 1 (t 59) (t 62)),bG 1 79 72,cO 80 (ixaS 1 (t 63) (t 66)),bG 1 80 78]).seq (ops 0 [aa 81 11,aa 10 81]))))))).loop)))
theorem Fo:Is Tryz.prog 197 EX:=mkI Tryz.func197
def F3:F2:=(F2.mk 7 [RV.t 2] (ac [cO 2 (mov (c (AV.int IntKind.u64 (0))))] (ac [aa 3 0,cO 4 (conv IntKind.u64 (t 3)),a6 5 156 [t 4],cO 6 (cB .shl (c (AV.int IntKind.u64 (1))) (t 5)),aa 2 6] ret)))
theorem Hg:Is Tryz.prog 198 F3:=mkI Tryz.func198
def FU:F2:=(F2.mk 33 [RV.t 2] (ac [cO 2 (mov (c (AV.int IntKind.u64 (0))))] ((ops 1 [aa 3 0,cO 4 (nilck (t 3)),aF 5 4,aa 6 0,cO 7 (nilck (t 6)),aF 8 7,cO 9 (cB .shl (t 8) (c (AV.int IntKind.u64 (13)))),aO 10 .xor 5 9,cO 11 (nilck (t 3)),bG 1 11 10]).seq ((ops 1 [aa 12 0,cO 13 (nilck (t 12)),aF 14 13,aa 15 0,cO 16 (nilck (t 15)),aF 17 16,cO 18 (cB .shr (t 17) (c (AV.int IntKind.u64 (7)))),aO 19 .xor 14 18,cO 20 (nilck (t 12)),bG 1 20 19]).seq ((ops 1 [aa 21 0,cO 22 (nilck (t 21)),aF 23 22,aa 24 0,cO 25 (nilck (t 24)),aF 26 25,cO 27 (cB .shl (t 26) (c (AV.int IntKind.u64 (17)))),aO 28 .xor 23 27,cO 29 (nilck (t 21)),bG 1 29 28]).seq (ac [aa 30 0,cO 31 (nilck (t 30)),aF 32 31,aa 2 32] ret))))))
theorem FF:Is Tryz.prog 199 FU:=mkI Tryz.func199
def E8:F2:=(F2.mk 18 [RV.t 8] (ac [cO 8 (mov (cN 0))] (ac [aa 9 0,aa 10 1,aq 11 .sub 10 1,aa 12 1,aa 13 1,aq 14 .add 13 1,aa 15 2,aa 16 3,a6 17 201 [t 9,t 11,t 12,t 14,t 15,t 16],aa 8 17] ret)))
theorem EU:Is Tryz.prog 200 E8:=mkI Tryz.func200
def Fy:F2:=(F2.mk 41 [RV.t 12] (ac [cO 12 (mov (cN 0))] (ac [aa 14 0,aa 15 1,aa 16 2,aa 17 4,aa 18 5,a6 19 208 [t 14,t 15,t 16,t 17,t 18],aa 13 19,bI 20 13 0,bI 21 13 1,aa 1 20,aa 2 21] (ac [aa 23 0,aa 24 2,aa 25 3,aa 26 4,aa 27 5,a6 28 208 [t 23,t 24,t 25,t 26,t 27],aa 22 28,bI 29 22 0,bI 30 22 1,aa 2 29,aa 3 30] (ac [aa 32 0,aa 33 1,aa 34 2,aa 35 4,aa 36 5,a6 37 208 [t 32,t 33,t 34,t 35,t 36],aa 31 37,bI 38 31 0,bI 39 31 1,aa 1 38,aa 2 39] (ac [aa 40 2,aa 12 40] ret))))))
theorem GC:Is Tryz.prog 201 Fy:=mkI Tryz.func201
def FE:F2:=(F2.mk 32 [RV.t 10,RV.t 11] (ac [cO 10 (mov (cN 0)),cO 11 (mov (cN 0))] (((mixS 1 [aa 12 4,aa 13 0,aa 14 2,cO 15 (ixaS 1 (t 13) (t 14)),aF 16 15,aa 17 0,aa 18 1,cO 19 (ixaS 1 (t 17) (t 18)),aF 20 19,cO 21 (call (t 12) [t 16,t 20]),aq 22 .lss 21 0] [(0,0),(1,0),(2,0),(3,0),(4,0),(5,0),(6,0),(7,0),(8,0),(9,2),(10,0)]).seq (au 22 (ac [aa 23 3,cO 24 (nilck (t 23)),aF 25 24,aq 26 .add 25 1,cO 27 (nilck (t 23)),bG 1 27 26] (ac [aa 28 2,aa 29 1,aa 10 28,aa 11 29] ret)) skip)).seq (ac [aa 30 1,aa 31 2,aa 10 30,aa 11 31] ret))))
theorem Fd:Is Tryz.prog 208 FE:=mkI Tryz.func208
end Go.Proofs.YtekdaafnjdlenaaGreat
namespace Go.Proofs.YtekdaafnjdlenaaGreat
open Go Go.Abs
def swp {α:Type} [Inhabited α] (L:List α) (i j:Nat):List α:=(L.set i (L.getD j default)).set j (L.getD i default)
structure PermR {α:Type} [Inhabited α] (a b:Nat) (L L':List α):Prop where
 len:L'.length=L.length
 out:∀ i,i < a ∨ b ≤ i→L'.getD i default=L.getD i default
 perm:L'.Perm L
section
variable {α:Type} [Inhabited α] {a b a' b':Nat} {L L' L'':List α}
theorem c7 {l:List α} {i j:Nat} {x:α} (h:i < l.length):(l.set i x).getD j default=if i=j then x else l.getD j default:=by
 simp only [List.getD,List.getElem?_set];split
 ·rename_i e; subst e; simp [h]
 ·rfl
theorem yd (i j:Nat):(swp L i j).length=L.length:=by simp [swp]
theorem d3 {i j:Nat} (hi:i < L.length) (hj:j < L.length) (k:Nat):(swp L i j).getD k default=if k=j then L.getD i default else if k=i then L.getD j default else L.getD k default:=by
 unfold swp;rw [c7 (by simpa using hj),c7 hi];by_cases e:k=j
 ·subst e; simp
 ·rw [if_neg (fun h=>e h.symm),if_neg e];by_cases e2:k=i
  ·subst e2; simp
  ·rw [if_neg (fun h=>e2 h.symm),if_neg e2]
theorem A8 {i j:Nat} (hi:i < L.length) (hj:j < L.length):(swp L i j).Perm L:=by
 unfold swp;have e1:L.getD i default=L[i]:=by simp [List.getD,hi]
 have e2:L.getD j default=L[j]:=by simp [List.getD,hj]
 rw [e1,e2];exact List.set_set_perm hi hj
theorem PermR.refl:PermR a b L L:=⟨rfl,fun _ _=>rfl,List.Perm.refl _⟩
theorem PermR.trans (h:PermR a b L L') (k:PermR a b L' L''):PermR a b L L'':=⟨k.len.trans h.len,fun i hi=>(k.out i hi).trans (h.out i hi),k.perm.trans h.perm⟩
theorem PermR.mono (h:PermR a' b' L L') (h1:a ≤ a') (h2:b' ≤ b):PermR a b L L':=⟨h.len,fun i hi=>h.out i (by omega),h.perm⟩
theorem PermR.swap {i j:Nat} (h1:a ≤ i∧i < b) (h2:a ≤ j∧j < b) (hb:b ≤ L.length):PermR a b L (swp L i j) :=
 ⟨yd i j,fun k hk=>by rw [d3 (by omega) (by omega),if_neg (by omega),if_neg (by omega)],A8 (by omega) (by omega)⟩
theorem uA {l m:List α} (hl:l.length=m.length) (h:∀ i,i < l.length→l.getD i default=m.getD i default):l=m :=
 List.ext_getElem hl (fun i h1 h2=>by
  have:=h i h1;simpa [List.getD,h1,h2] using this)
theorem PermR.mid (h:PermR a b L L') (hab:a ≤ b) (hb:b ≤ L.length):((L'.drop a).take (b - a)).Perm ((L.drop a).take (b - a)):=by
 have e1:∀ M:List α,b ≤ M.length→M=M.take a ++ ((M.drop a).take (b - a) ++ M.drop b):=fun M hM=>by
  have:M.drop b=(M.drop a).drop (b - a):=by rw [List.drop_drop]; congr 1; omega
  rw [this,A7,A7]
 have t:L'.take a=L.take a:=uA (by simp [h.len]) (fun i hi=>by
  have hi':i < a:=by simp at hi; omega
  rw [nt hi',nt hi']; exact h.out i (.inl hi'))
 have d:L'.drop b=L.drop b:=uA (by simp [h.len]) (fun i hi=>by
  have e:∀ M:List α,(M.drop b).getD i default=M.getD (b + i) default:=fun M=>by simp [List.getD,jV]
  rw [e,e]; exact h.out (b + i) (.inr (by omega)))
 have p:=h.perm;rw [e1 L' (by rw [h.len]; exact hb),e1 L hb,t,d] at p;exact (List.perm_append_right_iff _).1 ((List.perm_append_left_iff _).1 p)
theorem xJ {M:List α} {x:α} (hab:a ≤ b) (hb:b ≤ M.length):x ∈ (M.drop a).take (b - a) ↔ ∃ i,a ≤ i∧i < b∧M.getD i default=x:=by
 constructor
 ·intro h;obtain ⟨j,hj,e⟩:=jx h;have hj':j < b - a:=by simp at hj; omega
  refine ⟨a + j,by omega,by omega,?_⟩;rw [← e];simp [List.getD,List.getElem_take,List.getElem_drop,show a + j < M.length by omega]
 ·rintro ⟨i,h1,h2,rfl⟩;rw [List.mem_iff_getElem?];refine ⟨i - a,?_⟩;rw [gy,if_pos (by omega),jV,show a + (i - a)=i by omega];simp [List.getD,show i < M.length by omega]
theorem PermR.all {p:α→Prop} (h:PermR a b L L') (hab:a ≤ b) (hb:b ≤ L.length) (hp:∀ i,a ≤ i→i < b→p (L.getD i default)):∀ i,a ≤ i→i < b→p (L'.getD i default):=by
 intro i h1 h2;have hm:L'.getD i default ∈ (L'.drop a).take (b - a):=(xJ hab (by rw [h.len]; exact hb)).2 ⟨i,h1,h2,rfl⟩;obtain ⟨j,k1,k2,e⟩:=(xJ hab hb).1 ((h.mid hab hb).mem_iff.1 hm);rw [← e]; exact hp j k1 k2
end
structure Ord {α:Type} (K:α→α→Int):Prop where
 irr:∀ x,¬ K x x < 0
 asym:∀ x y,K x y < 0→¬ K y x < 0
 negtr:∀ x y z,¬ K y x < 0→¬ K z y < 0→¬ K z x < 0
def bi {α:Type} [Inhabited α] (K:α→α→Int) (a b:Nat) (L:List α):Prop:=∀ i j,a ≤ i→i < j→j < b→¬ K (L.getD j default) (L.getD i default) < 0
theorem bi.one {α:Type} [Inhabited α] {K:α→α→Int} {a b:Nat} {L:List α} (h:b ≤ a + 1):bi K a b L:=fun i j h1 h2 h3=>by omega
structure LinK {α:Type} (K:α→α→Int):Prop where
 ord:Ord K
 eq:∀ x y,¬ K x y < 0→¬ K y x < 0→x=y
def cI {α:Type} (K:α→α→Int) (l:List α):Prop:=l.Pairwise fun x y=>K x y < 0
def jd {α:Type} (K:α→α→Int):List α→α→List α
 | [],v=>[v]
 | a :: l,v=>if K v a < 0 then v :: a :: l else a :: jd K l v
section
variable {α:Type} [DecidableEq α] {K:α→α→Int}
def jJ (K:α→α→Int) (acc:List α) (v:α):List α:=if v ∈ acc then acc else jd K acc v
def np (K:α→α→Int) (acc l:List α):List α:=l.foldl (jJ K) acc
def kR (K:α→α→Int) (l:List α):List α:=np K [] l
omit [DecidableEq α] in
theorem cI.nil:cI K ([]:List α):=rf
omit [DecidableEq α] in
theorem cI.nodup {l:List α} (hK:LinK K) (h:cI K l):l.Nodup:=wB (fun {a b} h e=>by subst e; exact hK.ord.irr a h) h
omit [DecidableEq α] in
theorem LinK.tri (hK:LinK K) (x y:α):K x y < 0 ∨ x=y ∨ K y x < 0:=by
 by_cases h1:K x y < 0
 ·exact .inl h1
 ·by_cases h2:K y x < 0
  ·exact .inr (.inr h2)
  ·exact .inr (.inl (hK.eq x y h1 h2))
omit [DecidableEq α] in
theorem LinK.trans (hK:LinK K) {x y z:α} (h1:K x y < 0) (h2:K y z < 0):K x z < 0:=by
 refine Decidable.byContradiction fun hn=>?_;exact hK.ord.negtr z x y hn (hK.ord.asym _ _ h1) h2
omit [DecidableEq α] in
theorem nN {a b:List α} (hK:LinK K) (ha:cI K a) (hb:cI K b) (h:∀ x,x ∈ a ↔ x ∈ b):a=b:=by
 classical
 have hp:a.Perm b:=(List.perm_ext_iff_of_nodup (ha.nodup hK) (hb.nodup hK)).2 h;exact List.Perm.eq_of_pairwise (fun x y _ _ h1 h2=>absurd h2 (hK.ord.asym _ _ h1)) ha hb hp
omit [DecidableEq α] in
theorem vP {l:List α} {v x:α}:x ∈ jd K l v ↔ x ∈ l ∨ x=v:=by
 induction l with
 | nil=>simp [jd]
 | cons a l ih =>
  unfold jd;split
  ·simp only [dF];exact ⟨fun h=>h.elim .inr .inl,fun h=>h.elim .inr .inl⟩
  ·rw [dF,ih,dF,or_assoc]
omit [DecidableEq α] in
theorem Ag {l:List α} {v:α} (hK:LinK K) (h:cI K l) (hv:v ∉ l):cI K (jd K l v):=by
 induction l with
 | nil=>exact List.pairwise_singleton _ _
 | cons a l ih =>
  unfold cI at h;rw [jv] at h;unfold jd;split
  ·rename_i hlt
   exact jv.2 ⟨fun y hy=>by
    rcases dF.1 hy with rfl | hy
    ·exact hlt
    ·exact hK.trans hlt (h.1 y hy),jv.2 h⟩
  ·rename_i hlt;refine jv.2 ⟨fun y hy=>?_,ih h.2 fun hm=>hv (gf _ hm)⟩;rcases vP.1 hy with hy | rfl
   ·exact h.1 y hy
   ·rcases hK.tri y a with k | k | k
    ·exact absurd k hlt
    ·exact absurd (k ▸ d4) hv
    ·exact k
omit [DecidableEq α] in
theorem uU {l:List α} {v:α}:(jd K l v).length=l.length + 1:=by
 induction l with
 | nil=>rfl
 | cons a l ih=>unfold jd; split <;> simp [ih]
theorem BA {acc:List α} {v x:α}:x ∈ jJ K acc v ↔ x ∈ acc ∨ x=v:=by
 unfold jJ;split
 ·rename_i h;exact ⟨.inl,fun h2=>h2.elim id (fun e=>e ▸ h)⟩
 ·exact vP
theorem BU {acc:List α} {v:α} (hK:LinK K) (h:cI K acc):cI K (jJ K acc v):=by
 unfold jJ;split
 ·exact h
 ·rename_i hn;exact Ag hK h hn
theorem Ab {acc:List α} {v:α}:(jJ K acc v).length ≤ acc.length + 1:=by
 unfold jJ;split
 ·omega
 ·rw [uU]; exact aR _
theorem vj:∀ {l acc:List α} {x:α},x ∈ np K acc l ↔ x ∈ acc ∨ x ∈ l
 | [],acc,x=>by simp [np]
 | v :: l,acc,x=>by
  rw [show np K acc (v :: l)=np K (jJ K acc v) l from rfl,vj,BA,dF,or_assoc]
theorem vw (hK:LinK K):∀ {l acc:List α},cI K acc→cI K (np K acc l)
 | [],_,h=>h
 | v :: l,acc,h=>vw hK (l:=l) (BU hK (v:=v) h)
theorem uW:∀ {l acc:List α},(np K acc l).length ≤ acc.length + l.length
 | [],acc=>by simp [np]
 | v :: l,acc=>by
  rw [show np K acc (v :: l)=np K (jJ K acc v) l from rfl];have:=uW (l:=l) (acc:=jJ K acc v);have:=Ab (K:=K) (acc:=acc) (v:=v);rw [dh]; omega
theorem zR {acc l:List α} {v:α}:np K acc (l ++ [v])=jJ K (np K acc l) v:=by
 unfold np; rw [List.foldl_append]; rfl
theorem ue (hK:LinK K) (l:List α):cI K (kR K l):=vw hK rf
theorem mw {l:List α} {x:α}:x ∈ kR K l ↔ x ∈ l:=by
 unfold kR; rw [vj]; simp
theorem p8 {l:List α}:(kR K l).length ≤ l.length:=by
 have:=uW (K:=K) (l:=l) (acc:=[]);unfold kR;rw [fu] at this;omega
theorem yR {l:List α} {v:α}:kR K (l ++ [v])=jJ K (kR K l) v:=zR
theorem uJ {l:List α}:kR K l=[] ↔ l=[]:=by
 constructor
 ·intro h;cases l with
  | nil=>rfl
  | cons a l =>
   have:a ∈ kR K (a :: l):=mw.2 (d4 ..);rw [h] at this;exact absurd this (by simp)
 ·rintro rfl; rfl
end
section
variable {α:Type} [Inhabited α] [DecidableEq α]
end
abbrev Shn {α:Type} (l:List α):Prop:=l.length ≤ 17592186044416
structure Vtx where
 color:Int
 label:Int
 deriving Inhabited,DecidableEq
abbrev Spx:=List Vtx
def z8 (v:Vtx):List AV:=[.int .i64 v.color,.int .i64 v.label]
abbrev cL (v:Vtx):AV:=.agg [.int .i64 v.color,.int .i64 v.label]
def aB (l:Spx):AV:=ie 2 cL l
def aD (l:List Spx):AV:=ie 1 aB l
def cX (l:Spx):List AV:=l.flatMap z8
theorem Bt (v:Vtx):Dat (cL v):=Dat.agg (DatL.cons .int (DatL.cons .int DatL.nil))
theorem cV (l:Spx):Dat (aB l):=pi (fun x _ c hc=>by
 simp only [cL,AV.cells,dF,List.not_mem_nil,or_false] at hc;rcases hc with rfl | rfl <;> exact .int)
theorem cE (l:List Spx):Dat (aD l):=pi (fun x _ c hc=>by
 simp only [aB,ie,AV.cells,dY] at hc; subst hc; exact cV x)
instance datI_encX {v:Vtx}:DatI (cL v):=⟨Bt v⟩
instance datI_encXs {l:Spx}:DatI (aB l):=⟨cV l⟩
instance datI_encXss {l:List Spx}:DatI (aD l):=⟨cE l⟩
theorem bh {l:Spx}:(aB l).cells=[aB l]:=rfl
theorem bC {l:Spx}:(aB l).one=true:=rfl
theorem ah {l:List Spx}:(aD l).cells=[aD l]:=rfl
theorem ak {l:List Spx}:(aD l).one=true:=rfl
theorem xo {l:Spx} {k:IntKind} {n:Int}:ey 2 (aB l) (.int k n)=if 0 ≤ n∧n < l.length then some (.iptr [.int .i64 (l.getD n.toNat default).color,.int .i64 (l.getD n.toNat default).label] 0) else none:=ky
theorem am {l:Spx}:c6 (aB l)=some (.int .i64 l.length):=je
theorem v9 {l:List Spx} {k:IntKind} {n:Int}:ey 1 (aD l) (.int k n)=if 0 ≤ n∧n < l.length then some (.iptr [aB (l.getD n.toNat default)] 0) else none:=ky
theorem ae {l:List Spx}:c6 (aD l)=some (.int .i64 l.length):=je
theorem ix2 {l:Spx} {k:Nat} (h:k < l.length):ey 2 (aB l) (.int .i64 (k:Int))=some (.iptr [.int .i64 (l.getD k default).color,.int .i64 (l.getD k default).label] 0):=by
 rw [xo,if_pos ⟨by omega,by omega⟩,cm]
theorem eI {l:List Spx} {k:Nat} (h:k < l.length):ey 1 (aD l) (.int .i64 (k:Int))=some (.iptr [aB (l.getD k default)] 0):=by
 rw [v9,if_pos ⟨by omega,by omega⟩,cm]
theorem jf (l:Spx):(cX l).length=l.length * 2:=by
 induction l with
 | nil=>rfl
 | cons a l ih=>rw [cX,sS,cA,dh,show (l.flatMap z8).length=l.length * 2 from ih]; show 2 + _=_; omega
theorem mM (l m:Spx):cX (l ++ m)=cX l ++ cX m:=List.flatMap_append
theorem DN (v:Vtx):cX [v]=[.int .i64 v.color,.int .i64 v.label]:=rfl
theorem xt (l:Spx):(l.map cL).flatMap AV.cells=cX l:=by
 induction l with
 | nil=>rfl
 | cons a l ih=>rw [fk,sS,ih]; rfl
theorem B3 {H:Hp} {s:AV} {l:Spx} (h:Row H 2 s (cX l)):Snap H s (aB l):=by
 refine Row.snap (elems:=l.map cL) (by rw [xt]; exact h) (fun y hy=>?_) (by omega) (fun y hy c hx=>?_)
 ·obtain ⟨n,_,rfl⟩:=bU.1 hy; rfl
 ·obtain ⟨n,_,rfl⟩:=bU.1 hy;simp only [cL,AV.cells,dF,List.not_mem_nil,or_false] at hx;rcases hx with rfl | rfl <;> exact .int
theorem lQ {H:Hp} {s:AV} {l:List Spx} (h:Row H 1 s (l.map aB)):Snap H s (aD l):=h.snapL' (fun _=>rfl) (fun x _=>cV x)
theorem AJ {H:Hp} {l:Spx}:dD 2 H (aB l)=some (l.length,cX l):=by
 unfold aB ie; rw [gQ,xt]; simp
theorem oN (l:Spx):AV.ones (cX l)=true:=by
 unfold AV.ones;rw [du];intro x hx;obtain ⟨v,_,hv⟩:=List.mem_flatMap.1 hx;simp only [z8,dF,List.not_mem_nil,or_false] at hv;rcases hv with rfl | rfl <;> rfl
def cl (v w:Vtx):Int:=if v.color < w.color then -1 else if v.color > w.color then 1 else if v.label < w.label then -1 else if v.label > w.label then 1 else 0
def bq:Spx→Spx→Int
 | [],[]=>0
 | [],_ :: _=>-1
 | _ :: _,[]=>1
 | a :: l,b :: m=>if cl a b ≠ 0 then cl a b else bq l m
theorem lY {v w:Vtx}:cl v w < 0 ↔ v.color < w.color ∨ (v.color=w.color∧v.label < w.label):=by
 unfold cl; (repeat' split) <;> constructor <;> intro h <;> omega
theorem oM {v w:Vtx}:v=w ↔ v.color=w.color∧v.label=w.label:=by
 obtain ⟨a,b⟩:=v;obtain ⟨c,d⟩:=w;simp
theorem gC {v w:Vtx}:cl v w=0 ↔ v=w:=by
 rw [oM]; unfold cl; (repeat' split) <;> constructor <;> intro h <;> omega
theorem ry (v w:Vtx):cl w v=- cl v w:=by
 unfold cl; (repeat' split) <;> omega
theorem vW:LinK cl where
 ord:={ irr:=fun x=>by rw [lY]; omega,asym:=fun x y h=>by rw [lY] at *; omega,negtr:=fun x y z h1 h2=>by rw [lY] at *; omega }
 eq:=fun x y h1 h2=>by rw [lY] at *; rw [oM]; omega
theorem fw:∀ l:Spx,bq l l=0
 | []=>rfl
 | a :: l=>by rw [bq,gC.2 rfl,if_neg (by simp)]; exact fw l
theorem oY:∀ {l m:Spx},bq l m=0→l=m
 | [],[],_=>rfl
 | [],_ :: _,h=>by simp [bq] at h
 | _ :: _,[],h=>by simp [bq] at h
 | a :: l,b :: m,h=>by
  rw [bq] at h;by_cases e:cl a b=0
  ·rw [if_neg (fun h=>h e)] at h;rw [gC.1 e,oY h]
  ·rw [if_pos e] at h; exact absurd h e
theorem zp {l m:Spx}:bq l m=0 ↔ l=m:=⟨oY,fun h=>by rw [h]; exact fw _⟩
theorem nk:∀ l m:Spx,bq m l=- bq l m
 | [],[]=>rfl
 | [],_ :: _=>rfl
 | _ :: _,[]=>rfl
 | a :: l,b :: m=>by
  rw [bq,bq,ry a b];by_cases e:cl a b=0
  ·rw [e,if_neg (by simp),if_neg (by simp)]; exact nk l m
  ·rw [if_pos (by omega),if_pos e]
theorem pm:∀ (x y z:Spx),¬ bq y x < 0→¬ bq z y < 0→¬ bq z x < 0
 | [],_,[],_,_=>by simp [bq]
 | [],_,_ :: _,_,_=>by simp [bq]
 | _ :: _,[],_,h,_=>by simp [bq] at h
 | _ :: _,_ :: _,[],_,h=>by simp [bq] at h
 | a :: x,b :: y,c :: z,h1,h2=>by
  rw [bq] at h1 h2 ⊢;have n:=vW.ord.negtr a b c;by_cases e1:cl b a=0
  ·have e1':=gC.1 e1;subst e1';rw [if_neg (fun h=>h e1)] at h1;by_cases e2:cl c b=0
   ·rw [if_neg (fun h=>h e2)] at h2 ⊢;exact pm x y z h1 h2
   ·rw [if_pos e2] at h2 ⊢; exact h2
  ·rw [if_pos e1] at h1;by_cases e2:cl c b=0
   ·have e2':=gC.1 e2;subst e2';rw [if_pos e1]; exact h1
   ·rw [if_pos e2] at h2;have h3:=n h1 h2;by_cases e3:cl c a=0
    ·exfalso;have e3':=gC.1 e3;subst e3';have:=ry b c;omega
    ·rw [if_pos e3]; exact h3
theorem rm:LinK bq where
 ord:={ irr:=fun x=>by rw [fw]; omega,asym:=fun x y h=>by rw [nk]; omega,negtr:=pm }
 eq:=fun x y h1 h2=>by
  have:=nk x y;exact oY (by omega)
theorem rP {l m:Spx} {k:Nat} (h1:k < l.length) (h2:k < m.length):bq (l.drop k) (m.drop k)=if cl (l.getD k default) (m.getD k default) ≠ 0 then cl (l.getD k default) (m.getD k default) else bq (l.drop (k + 1)) (m.drop (k + 1)):=by
 rw [kF h1,kF h2,bq]
theorem qp {l m:Spx} {k:Nat} (h:l.length ≤ k ∨ m.length ≤ k) (hk:k ≤ l.length∧k ≤ m.length):bq (l.drop k) (m.drop k)=if l.length < m.length then -1 else if m.length < l.length then 1 else 0:=by
 by_cases e1:l.length=k
 ·rw [Bg (show l.length ≤ k by omega)];by_cases e2:m.length=k
  ·rw [Bg (by omega),if_neg (by omega),if_neg (by omega)]; rfl
  ·rw [kF (l:=m) (k:=k) (by omega),if_pos (by omega)]; rfl
 ·have e2:m.length=k:=by omega
  rw [kF (l:=l) (k:=k) (by omega),Bg (show m.length ≤ k by omega),if_neg (by omega),if_pos (by omega)]; rfl
def dr (f:Nat→Int):Nat→Int
 | 0=>0
 | n + 1=>if dr f n ≠ 0 then dr f n else f n
theorem ec {f:Nat→Int}:∀ {n:Nat},(∀ i,i < n→f i=0)→dr f n=0
 | 0,_=>rfl
 | n + 1,h=>by
  have:=ec (f:=f) (n:=n) (fun i hi=>h i (by omega));rw [dr,this,if_neg (by simp)]; exact h n (by omega)
theorem dH {f:Nat→Int}:∀ {n k:Nat},k < n→(∀ i,i < k→f i=0)→f k ≠ 0→dr f n=f k
 | 0,k,h,_,_=>absurd h (by omega)
 | n + 1,k,h,h0,hk=>by
  rw [dr];by_cases e:k=n
  ·subst e;rw [ec h0,if_neg (by simp)]
  ·rw [dH (n:=n) (by omega) h0 hk,if_pos hk]
theorem iT {f:Nat→Int}:∀ {n:Nat},dr f n=0→∀ i,i < n→f i=0
 | 0,_,i,h=>absurd h (by omega)
 | n + 1,h,i,hi=>by
  rw [dr] at h;by_cases e:dr f n=0
  ·rw [e,if_neg (by simp)] at h;by_cases ei:i=n
   ·subst ei; exact h
   ·exact iT e i (by omega)
  ·rw [if_pos e] at h; exact absurd h e
def eD (v:Vtx):Bool:=decide (0 ≤ v.color) && decide (v.color < 8) && (decide (0 ≤ v.label) && decide (v.label ≤ 1048576))
def oa (l:Spx) (k:Nat):Int:=if eD (l.getD k default)=false then 2 else if 0 < k∧0 ≤ cl (l.getD (k - 1) default) (l.getD k default) then 14 else 0
def cf (l:Spx):Int:=if l.length=0 then 16 else if 8 < l.length then 5 else dr (oa l) l.length
theorem cC {l:Spx} (h:cf l=0):1 ≤ l.length∧l.length ≤ 8∧cI cl l∧∀ v ∈ l,eD v=true:=by
 unfold cf at h;split at h
 ·exact absurd h (by decide)
 split at h
 ·exact absurd h (by decide)
 rename_i h1 h2;have hz:=iT h
 have h3:∀ k,k < l.length→eD (l.getD k default)=true∧(0 < k→cl (l.getD (k - 1) default) (l.getD k default) < 0):=fun k hk=>by
  have:=hz k hk;unfold oa at this;split at this
  ·exact absurd this (by decide)
  rename_i g1;split at this
  ·exact absurd this (by decide)
  rename_i g2;exact ⟨by simpa using g1,fun h0=>by omega⟩
 refine ⟨by omega,by omega,?_,fun v hv=>?_⟩
 ·have step:∀ j i,i < j→j < l.length→cl (l.getD i default) (l.getD j default) < 0:=by
    intro j
    induction j with
    | zero=>intro i h; omega
    | succ j ih =>
     intro i hi hj;have hs:=(h3 (j + 1) hj).2 (by omega);rw [rc] at hs;by_cases e:i=j
     ·subst e; exact hs
     ·exact vW.trans (ih i (by omega) (by omega)) hs
  unfold cI;rw [oE];intro i j hi hj hij;have:=step j i hij hj;simpa [List.getD,hi,hj] using this
 ·obtain ⟨i,hi,rfl⟩:=jx hv;have:=(h3 i hi).1;simpa [List.getD,hi] using this
theorem dP {α:Type} [Inhabited α] {K:α→α→Int} {l:List α} (h:cI K l) {i j:Nat} (hij:i < j) (hj:j < l.length):K (l.getD i default) (l.getD j default) < 0:=by
 have:=oE.1 h i j (by omega) hj hij;simpa [List.getD,hj,show i < l.length by omega] using this
theorem AN {l:Spx} (h1:1 ≤ l.length∧l.length ≤ 8) (h2:cI cl l) (h3:∀ v ∈ l,eD v=true):cf l=0:=by
 unfold cf;rw [if_neg (by omega),if_neg (by omega)];refine ec fun k hk=>?_;unfold oa;rw [h3 _ (bf hk),if_neg (by simp),if_neg];rintro ⟨h0,h4⟩;have:=dP h2 (i:=k - 1) (j:=k) (by omega) hk;omega
end Go.Proofs.YtekdaafnjdlenaaGreat
namespace Go.Proofs.YtekdaafnjdlenaaGreat
open Go Go.Abs
open Nat (reduceEqDiff reduceAdd reduceLeDiff)
def c3i (a b:Int):Int:=if a < b then -1 else if a > b then 1 else 0
theorem Cn (v w:Vtx):(if c3i v.color w.color ≠ 0 then c3i v.color w.color else c3i v.label w.label)=cl v w:=by
 unfold c3i cl;by_cases h1:v.color < w.color
 ·rw [if_pos h1,if_pos h1,if_pos (by simp)]
 ·rw [if_neg h1,if_neg h1];by_cases h2:v.color > w.color
  ·rw [if_pos h2,if_pos h2,if_pos (by simp)]
  ·rw [if_neg h2,if_neg h2,if_neg (by simp)]
attribute [local irreducible] aA ag a8 aQ aK aL ar aN aU bd Go.Abs.Fn aP Go.Abs.Pure an aG Yl
theorem iv (n:Int):pU 165 [.int .i64 n] (.bool false):=by
 refine pO Fk ?_;simp only [Hi,aJ];refine wnZ and_self ?_;exact b5 (aS (fun h=>h rfl))
theorem AD (a b:Int):pU 152 [.int .i64 a,.int .i64 b] (.int .i64 (c3i a b)):=by
 refine pO FB ?_;simp only [Fb,aJ];have h1:=iv a;have h2:=iv b;unfold c3i
 repeat' (first|refine zW ?_|apply a_n|apply a_r|refine zO ?_|refine vZ ?_|refine cZ ?_ (hp:=by first | exact h1 | exact h2)|refine cFZ ?_|(refine zGZ ?_ ?_ <;> (intro _hg; try (exfalso; omega)))|refine b4 rfl ?_|refine r1Z ?_|fail)
 all_goals (refine dL ?_)
 ·rw [if_pos (by omega)]
 ·rw [if_neg (by omega),if_pos (by omega)]
 ·rw [if_neg (by omega),if_neg (by omega)]
theorem Gv (a b:Int):pU 151 [az [a,b]] (.int .i64 (if a ≠ 0 then a else b)):=by
 refine pO E5 ?_;simp only [Gk,aJ];refine wnZ and_self ?_;refine yq (fun k=>[(3,.int .i64 0),(6,az [a,b]),(7,.int .i64 2),(8,.int .i64 k)]) 2 (fun k=>[a,b].getD k default=0) (by (iterate 4 refine And.intro rfl ?_); trivial) ?_;intro k hk hz;rcases (by omega:k=0 ∨ k=1 ∨ k=2) with rfl | rfl | rfl
 ·have e:[a,b].getD 0 default=a:=rfl;have ix:ey 1 (az [a,b]) (.int .i64 ((0:Nat):Int))=some (.iptr [.int .i64 a] 0):=rfl;by_cases h0:a=0
  ·have z:decide (a ≠ 0)=false:=aS (fun h=>h h0);refine wnZ (aI @ix @z) ?_;exact ⟨by omega,h0,by (iterate 4 refine And.intro rfl ?_); trivial,rfl,rfl⟩
  ·have z:decide (a ≠ 0)=true:=aX h0;refine wnZ (aI @ix @z) ?_;rw [if_pos h0]; exact .int _ _
 ·have h0:a=0:=hz 0 (by omega);have ix:ey 1 (az [a,b]) (.int .i64 ((1:Nat):Int))=some (.iptr [.int .i64 b] 0):=rfl;rw [if_neg (fun h=>h h0)];by_cases h1:b=0
  ·have z:decide (b ≠ 0)=false:=aS (fun h=>h h1);refine wnZ (aI @ix @z) ?_;exact ⟨by omega,h1,by (iterate 4 refine And.intro rfl ?_); trivial,rfl,rfl⟩
  ·have z:decide (b ≠ 0)=true:=aX h1;refine wnZ (aI @ix @z) ?_;exact .int _ _
 ·have h0:a=0:=hz 0 (by omega);have h1:b=0:=hz 1 (by omega);rw [if_neg (fun h=>h h0),h1];refine wnZ and_self ?_;exact .int _ _
theorem xI (v w:Vtx):pU 123 [cL v,cL w] (.int .i64 (cl v w)):=by
 refine pO FQ ?_;simp only [Hs,aJ];have h1:=AD v.color w.color;have h2:=AD v.label w.label;have h3:=Gv (c3i v.color w.color) (c3i v.label w.label);rw [Cn] at h3;refine wkZ and_self ?_;refine fK ev0 (by ((try simp only [bN,ZA,reduceEqDiff,↓reduceIte,reduceAdd,reduceLeDiff]); (try with_reducible rfl)); rfl) h3 (aH (ai (v8 af rfl rfl) ao) rfl) ?_;refine wnZ and_self ?_;exact .int _ _
theorem qG (v w:Vtx):pU 126 [cL v,cL w] (.int .i64 (cl v w)):=by
 refine pO EJ ?_;simp only [Fl,aJ];unfold cl
 repeat' (first|refine zW ?_|apply a_n|apply a_r|refine zO ?_|refine vZ ?_|refine bxZ ?_|(refine zGZ ?_ ?_ <;> (intro _hg; try (exfalso; omega)))|refine b4 rfl ?_|refine r1Z ?_|fail)
 all_goals (refine dL ?_; (repeat' split) <;> omega)
theorem wQ (v:Vtx):pU 153 [cL v] (.bool (eD v)):=by
 refine pO G9 ?_;simp only [GQ,aJ];unfold eD
 repeat' (first|refine zW ?_|apply a_n|refine zO ?_|refine vZ ?_|refine bxZ ?_|refine gTZ ?_|refine gFZ ?_|(refine zGZ ?_ ?_ <;> (intro _hg; try (exfalso; omega)))|refine b4 rfl ?_|refine r1Z ?_|fail)
 all_goals (refine b5 ?_; rw [Bool.eq_iff_iff]; simp only [cT,u9,gP,false_iff]; omega)
theorem zE (v:Vtx):pU 125 [cL v] (.bool (eD v)):=by
 refine pO Fg ?_;simp only [Ga,aJ];unfold eD
 repeat' (first|refine zW ?_|apply a_n|refine zO ?_|refine vZ ?_|refine bxZ ?_|refine gTZ ?_|refine gFZ ?_|(refine zGZ ?_ ?_ <;> (intro _hg; try (exfalso; omega)))|refine b4 rfl ?_|refine r1Z ?_|fail)
 all_goals (refine b5 ?_; rw [Bool.eq_iff_iff]; simp only [cT,u9,gP,false_iff]; omega)
end Go.Proofs.YtekdaafnjdlenaaGreat
namespace Go.Proofs.YtekdaafnjdlenaaGreat
open Go Go.Abs
attribute [local irreducible] aA ag a8 aQ aK aL ar aN aU bd Go.Abs.Fn aP Go.Abs.Pure an aG Yl
theorem vD (l m:Spx) (hl:Shn l) (hm:Shn m):pU 122 [aB l,aB m,.func 123 []] (.int .i64 (bq l m)):=by
 refine pO GF ?_;simp only [Fx,aJ];have hl':l.length ≤ 17592186044416:=hl;have hm':m.length ≤ 17592186044416:=hm;refine wnZ @am ?_;refine bR (X:=Nat) (fun k=>[(0,aB l),(1,aB m),(2,.func 123 []),(11,aB l),(12,.int .i64 l.length),(13,.int .i64 k)]) (fun k H nx=>k ≤ l.length∧k ≤ m.length∧bq l m=bq (l.drop k) (m.drop k)) (fun k=>l.length - k) 0 ⟨bB _,bB _,rfl⟩ ag0 ?_;rintro k H nx ⟨h1,h2,h3⟩;by_cases hk:k < l.length
 rotate_left
 ·rw [h3,qp (by omega) ⟨h1,h2⟩];have zz:=@am; repeat' (first|refine zW ?_|apply a_n|apply a_x|apply a_r|refine zO ?_|refine vY ?_|(refine zGY ?_ ?_ <;> (intro _hg; try (exfalso; omega)))|refine b4 rfl ?_|refine r1Y ?_|fail)
  all_goals (refine dL ?_)
  ·rw [if_pos (by omega)]
  ·rw [if_neg (by omega),if_neg (by omega)]
 have ix:=ix2 hk;by_cases hk2:k < m.length
 rotate_left
 ·rw [h3,qp (by omega) ⟨h1,h2⟩,if_neg (by omega),if_pos (by omega)];refine wnY (aI @am @ix) ?_
  all_goals exact dL rfl
 have iy:=ix2 hk2;have hc:=xI (l.getD k default) (m.getD k default);have hd:=rP hk hk2;by_cases he:cl (l.getD k default) (m.getD k default)=0
 ·rw [if_neg (fun h=>h he)] at hd;rw [he] at hc;have z:decide ((0:Int) ≠ 0)=false:=rfl;refine wnY (zI4 @am @ix @iy @z) ?_;exact ⟨k + 1,by omega,⟨by omega,by omega,h3.trans hd⟩,ag0⟩
 ·rw [if_pos he] at hd;have z:decide (cl (l.getD k default) (m.getD k default) ≠ 0)=true:=aX he;rw [h3,hd];refine wnY (zI4 @am @ix @iy @z) ?_;exact .int _ _
theorem iw (l m:Spx) (hl:Shn l) (hm:Shn m):pU 70 [aB l,aB m] (.int .i64 (bq l m)):=by
 refine pO Ie ?_;simp only [b70,aJ];have h:=vD l m hl hm;refine wnZ and_self ?_;exact .int _ _
theorem lL (l m:Spx) (hl:Shn l) (hm:Shn m):pU 73 [aB l,aB m] (.int .i64 (bq l m)):=by
 refine pO HL ?_;simp only [b73,aJ];have hl':l.length ≤ 17592186044416:=hl;have hm':m.length ≤ 17592186044416:=hm;refine wnZ and_self ?_;refine bR (X:=Nat) (fun k=>[(0,aB l),(1,aB m),(5,.int .i64 k)]) (fun k H nx=>k ≤ l.length∧k ≤ m.length∧bq l m=bq (l.drop k) (m.drop k)) (fun k=>l.length - k) 0 ⟨bB _,bB _,rfl⟩ ag0 ?_;rintro k H nx ⟨h1,h2,h3⟩;by_cases hk:k < l.length∧k < m.length
 rotate_left
 ·rw [h3,qp (by omega) ⟨h1,h2⟩];have zz:=@am; repeat' (first|refine zW ?_|apply a_n|apply a_x|apply a_r|refine zO ?_|refine vY ?_|refine gTY ?_|refine gFY ?_|refine cFY ?_|(refine zGY ?_ ?_ <;> (intro _hg; try (exfalso; omega)))|refine b4 rfl ?_|refine r1Y ?_|fail)
  all_goals (refine dL ?_; (repeat' split) <;> omega)
 have ix:=ix2 hk.1;have iy:=ix2 hk.2;have hc:=qG (l.getD k default) (m.getD k default);have hd:=rP hk.1 hk.2;by_cases he:cl (l.getD k default) (m.getD k default)=0
 ·rw [if_neg (fun h=>h he)] at hd;rw [he] at hc;have z:decide ((0:Int) ≠ 0)=false:=rfl;refine wkY (zI4 @am @ix @iy @z) ?_;exact ⟨k + 1,by omega,⟨by omega,by omega,h3.trans hd⟩,ag0⟩
 ·rw [if_pos he] at hd;have z:decide (cl (l.getD k default) (m.getD k default) ≠ 0)=true:=aX he;rw [h3,hd];refine wkY (zI4 @am @ix @iy @z) ?_;exact .int _ _
theorem oq {l:Spx} {k:Nat}:oa l k=if eD (l.getD k default)=false then 2 else if 0 < k∧0 ≤ cl (l.getD (k - 1) default) (l.getD k default) then 14 else 0:=rfl
theorem qF (l:Spx) (hl:Shn l):pU 128 [aB l] (.int .i64 (cf l)):=by
 refine pO FH ?_;simp only [Hd,aJ];have hl':l.length ≤ 17592186044416:=hl;by_cases h0:l.length=0
 ·rw [show cf l=16 by unfold cf; rw [if_pos h0]];refine wnZ @am ?_
  all_goals exact dL rfl
 by_cases h8:8 < l.length
 ·rw [show cf l=5 by unfold cf; rw [if_neg h0,if_pos h8]];refine wnZ @am ?_
  all_goals exact dL rfl
 rw [show cf l=dr (oa l) l.length by unfold cf; rw [if_neg h0,if_neg h8]];refine wnZ @am ?_;refine bR (X:=Nat) (fun k=>[(0,aB l),(13,aB l),(14,.int .i64 l.length),(15,.int .i64 k)]) (fun k H nx=>k ≤ l.length∧∀ i,i < k→oa l i=0) (fun k=>l.length - k) 0 ⟨bB _,fun i h=>absurd h (by omega)⟩ ag0 ?_;rintro k H nx ⟨h1,h2⟩;by_cases hk:k < l.length
 rotate_left
 ·rw [ec fun i hi=>h2 i (by omega)];refine wnY @am ?_;exact .int _ _
 have ix:=ix2 hk;have hp:=wQ (l.getD k default);have hs:=oq (l:=l) (k:=k);cases hr:eD (l.getD k default)
 ·rw [hr] at hp;rw [hr,if_pos rfl] at hs;rw [dH hk h2 (by rw [hs]; decide),hs];refine wnY (aI @am @ix) ?_;exact .int _ _
 rw [hr] at hp;rw [hr,if_neg (by decide)] at hs;by_cases hk0:0 < k
 rotate_left
 ·rw [if_neg (fun h=>hk0 h.1)] at hs;have zk:decide (0 < (k:Int))=false:=aS (by omega);refine wkY (zI3 @am @ix @zk) ?_
  exact ⟨k + 1,by omega,⟨by omega,fun i hi=>by
   rcases ju.1 hi with h | rfl
   ·exact h2 i h
   ·exact hs⟩,ag0⟩
 have zk:decide (0 < (k:Int))=true:=aX (by omega)
 have iy:ey 2 (aB l) (.int .i64 ((k:Int) - 1))=some (.iptr [.int .i64 (l.getD (k - 1) default).color,.int .i64 (l.getD (k - 1) default).label] 0):=by
  have:=ix2 (l:=l) (k:=k - 1) (by omega)
  rwa [show ((k - 1:Nat):Int)=(k:Int) - 1 by omega] at this
 have hc:=xI (l.getD (k - 1) default) (l.getD k default);by_cases hv:0 ≤ cl (l.getD (k - 1) default) (l.getD k default)
 ·have z:decide (0 ≤ cl (l.getD (k - 1) default) (l.getD k default))=true:=aX hv;rw [if_pos ⟨hk0,hv⟩] at hs;rw [dH hk h2 (by rw [hs]; decide),hs];refine wkY (zI5 @am @ix @iy @zk @z) ?_;exact .int _ _
 ·have z:decide (0 ≤ cl (l.getD (k - 1) default) (l.getD k default))=false:=aS hv;rw [if_neg (fun h=>hv h.2)] at hs;refine wkY (zI5 @am @ix @iy @zk @z) ?_
  exact ⟨k + 1,by omega,⟨by omega,fun i hi=>by
   rcases ju.1 hi with h | rfl
   ·exact h2 i h
   ·exact hs⟩,ag0⟩
theorem xE (l:Spx) (hl:Shn l):pU 72 [aB l] (.int .i64 (cf l)):=by
 refine pO HU ?_;simp only [b72,aJ];have hl':l.length ≤ 17592186044416:=hl;by_cases h0:l.length=0
 ·rw [show cf l=16 by unfold cf; rw [if_pos h0]];refine wnZ @am ?_
  all_goals exact dL rfl
 by_cases h8:8 < l.length
 ·rw [show cf l=5 by unfold cf; rw [if_neg h0,if_pos h8]];refine wnZ @am ?_
  all_goals exact dL rfl
 rw [show cf l=dr (oa l) l.length by unfold cf; rw [if_neg h0,if_neg h8]];refine wnZ @am ?_;refine bR (X:=Nat) (fun k=>[(0,aB l),(3,.int .i64 k)]) (fun k H nx=>k ≤ l.length∧∀ i,i < k→oa l i=0) (fun k=>l.length - k) 0 ⟨bB _,fun i h=>absurd h (by omega)⟩ ag0 ?_;rintro k H nx ⟨h1,h2⟩;by_cases hk:k < l.length
 rotate_left
 ·rw [ec fun i hi=>h2 i (by omega)];refine wnY @am ?_;exact .int _ _
 have ix:=ix2 hk;have hp:=zE (l.getD k default);have hs:=oq (l:=l) (k:=k);cases hr:eD (l.getD k default)
 ·rw [hr] at hp;rw [hr,if_pos rfl] at hs;rw [dH hk h2 (by rw [hs]; decide),hs];refine wnY (aI @am @ix) ?_;exact .int _ _
 rw [hr] at hp;rw [hr,if_neg (by decide)] at hs;by_cases hk0:0 < k
 rotate_left
 ·rw [if_neg (fun h=>hk0 h.1)] at hs;have zk:decide (0 < (k:Int))=false:=aS (by omega);refine wkY (zI3 @am @ix @zk) ?_
  exact ⟨k + 1,by omega,⟨by omega,fun i hi=>by
   rcases ju.1 hi with h | rfl
   ·exact h2 i h
   ·exact hs⟩,ag0⟩
 have zk:decide (0 < (k:Int))=true:=aX (by omega)
 have iy:ey 2 (aB l) (.int .i64 ((k:Int) - 1))=some (.iptr [.int .i64 (l.getD (k - 1) default).color,.int .i64 (l.getD (k - 1) default).label] 0):=by
  have:=ix2 (l:=l) (k:=k - 1) (by omega)
  rwa [show ((k - 1:Nat):Int)=(k:Int) - 1 by omega] at this
 have hc:=qG (l.getD (k - 1) default) (l.getD k default);by_cases hv:0 ≤ cl (l.getD (k - 1) default) (l.getD k default)
 ·have z:decide (0 ≤ cl (l.getD (k - 1) default) (l.getD k default))=true:=aX hv;rw [if_pos ⟨hk0,hv⟩] at hs;rw [dH hk h2 (by rw [hs]; decide),hs];refine wkY (zI5 @am @ix @iy @zk @z) ?_;exact .int _ _
 ·have z:decide (0 ≤ cl (l.getD (k - 1) default) (l.getD k default))=false:=aS hv;rw [if_neg (fun h=>hv h.2)] at hs;refine wkY (zI5 @am @ix @iy @zk @z) ?_
  exact ⟨k + 1,by omega,⟨by omega,fun i hi=>by
   rcases ju.1 hi with h | rfl
   ·exact h2 i h
   ·exact hs⟩,ag0⟩
end Go.Proofs.YtekdaafnjdlenaaGreat
namespace Go.Proofs.YtekdaafnjdlenaaGreat
open Go Go.Abs
open Nat (reduceEqDiff reduceAdd reduceLeDiff)
theorem xx (a b c d:Int):cJ [.int,.int] [.int .i64 a,.int .i64 b] [.int .i64 c,.int .i64 d]=some (decide (a=c∧b=d)):=by
 have e:∀ x y:Int,(x == y)=decide (x=y):=fun x y=>rfl;by_cases h1:a=c
 ·by_cases h2:b=d
  ·subst h1 h2; simp [cJ,gG]
  ·subst h1; simp only [cJ,gG,if_true,e,aS h2,decide_true,h2,and_false,decide_false]
 ·simp only [cJ,gG,if_true,e,aS h1,h1,false_and,decide_false]
theorem acq (a b c d:Int):lV .eql [.int,.int] [.int .i64 a,.int .i64 b] [.int .i64 c,.int .i64 d]=some (.bool (decide (a=c∧b=d))):=by
 unfold lV; rw [xx]
theorem acn (a b c d:Int):lV .neq [.int,.int] [.int .i64 a,.int .i64 b] [.int .i64 c,.int .i64 d]=some (.bool (!decide (a=c∧b=d))):=by
 unfold lV; rw [xx]
theorem tF (v w:Vtx):decide (v.color=w.color∧v.label=w.label)=decide (v=w):=decide_eq_decide.2 oM.symm
theorem nF {H:Hp} {d:Nat} {x y:AV}:dD 2 (aj H d [x,y]) (.msl d 2 2 0 1)=some (1,[x,y]):=ee (n:=2) (len:=1) (off:=0) (cs:=[x,y]) af rfl (by simp)
theorem dz {α:Type} [Inhabited α] {l:List α} {k:Nat} (h:k < l.length):l.take (k + 1)=l.take k ++ [l.getD k default]:=by
 rw [List.take_add_one]; simp [List.getD,h]
section
variable {α:Type} {K:α→α→Int} {v x:α} {l:List α}
theorem uM (h:l.any (fun y=>decide (K v y < 0))=true):jd K (l ++ [x]) v=jd K l v ++ [x]:=by
 induction l with
 | nil=>cases h
 | cons a l ih =>
  rw [List.cons_append,jd,jd];split
  ·rfl
  ·rename_i ha;rw [List.any_cons,aS ha,Bool.false_or] at h;rw [ih h]; rfl
theorem yW (h:l.any (fun y=>decide (K v y < 0))=false):jd K l v=l ++ [v]:=by
 induction l with
 | nil=>rfl
 | cons a l ih =>
  rw [List.any_cons,Bool.or_eq_false_iff] at h;rw [jd,if_neg (of_decide_eq_false h.1),ih h.2]; rfl
theorem zt (h:l.any (fun y=>decide (K v y < 0))=false) (hx:K v x < 0):jd K (l ++ [x]) v=l ++ [v] ++ [x]:=by
 induction l with
 | nil=>rw [List.nil_append,jd,if_pos hx]; rfl
 | cons a l ih =>
  rw [List.any_cons,Bool.or_eq_false_iff] at h;rw [List.cons_append,jd,if_neg (of_decide_eq_false h.1),ih h.2]; rfl
theorem Bu {p:α→Bool}:(l ++ [x]).any p=(l.any p || p x):=by rw [List.any_append]; simp
end
def dw (a b:Spx):Bool:=a.all fun v=>decide (v ∈ b)
attribute [local irreducible] aA ag a8 aQ aK aL ar aN aU bd Go.Abs.Fn aP Go.Abs.Pure an aG Yl
theorem Hh (l:Spx) (v:Vtx) (hl:Shn l):pU 127 [aB l,cL v] (.bool (decide (v ∈ l))):=by
 refine pO EP ?_;simp only [GN,aJ];have hl':l.length ≤ 17592186044416:=hl;refine wnZ @am ?_;refine yq (fun k=>[(0,aB l),(3,.ptr 0 2 0),(5,.int .i64 k)]) l.length (fun k=>l.getD k default ≠ v) (by simp (disch:=omega) only [agr,ZG,reduceEqDiff,↓reduceIte,dh,fu,b6,reduceAdd]) ?_;intro k hk hz;by_cases hk2:k < l.length
 rotate_left
 ·refine wnZ @am ?_;exact b5 (zc fun i hi=>hz i (by omega)).symm
 have ix:=ix2 hk2;have hd:=tF (l.getD k default) v;by_cases he:l.getD k default=v
 ·rw [aX he] at hd;rw [AU hk2 he];refine wnZ (zI4 @am @ix @acq @hd) ?_;exact .bool _
 ·rw [aS he] at hd;refine wnZ (zI4 @am @ix @acq @hd) ?_;exact ⟨hk2,he,ag0,rfl,rfl⟩
theorem tH (a b:Spx) (ha:Shn a) (hb:Shn b):pU 74 [aB a,aB b] (.bool (dw a b)):=by
 refine pO HC ?_;simp only [b74,aJ];have ha':a.length ≤ 17592186044416:=ha;refine wnZ @am ?_;refine yq (fun k=>[(0,aB a),(1,aB b),(5,.int .i64 k)]) a.length (fun k=>decide (a.getD k default ∈ b)=true) ag0 ?_;intro k hk hz;by_cases hk2:k < a.length
 rotate_left
 ·refine wnZ @am ?_;exact b5 (jN fun i hi=>hz i (by omega)).symm
 have ix:=ix2 hk2;have hh:=Hh b (a.getD k default) hb;cases hm:decide (a.getD k default ∈ b)
 ·rw [hm] at hh;rw [show dw a b=false from iu hk2 hm];refine wnZ (aI @am @ix) ?_;exact .bool _
 ·rw [hm] at hh;refine wnZ (aI @am @ix) ?_;exact ⟨hk2,rfl,ag0,rfl,rfl⟩
def iY (c:List Spx):Bool:=decide (c.length ≤ 30) && c.all fun s=>decide (s.length ≤ 10)
theorem CM (l:Spx) (hl:Shn l):pU 145 [aB l] (.bool (decide (l.length ≤ 10))):=by
 refine pO Fh ?_;simp only [Hr,aJ];refine wnZ @am ?_;exact b5 (decide_eq_decide.2 (by omega))
theorem Bd (c:List Spx) (hc:Shn c) (hs:∀ s ∈ c,Shn s):pU 95 [aD c] (.bool (iY c)):=by
 refine pO Ib ?_;simp only [b95,aJ];have hc':c.length ≤ 17592186044416:=hc;unfold iY;by_cases h:c.length ≤ 30
 rotate_left
 ·have z:decide (30 < (c.length:Int))=true:=aX (by omega);rw [aS h,Bool.false_and];refine wnZ (aI @ae @z) ?_;exact .bool _
 have z:decide (30 < (c.length:Int))=false:=aS (by omega);rw [aX h,Bool.true_and];refine wnZ (aI @ae @z) ?_;refine yq (fun k=>[(0,aD c),(3,.int .i64 k)]) c.length (fun k=>decide ((c.getD k default).length ≤ 10)=true) ag0 ?_;intro k hk hz;by_cases hk2:k < c.length
 rotate_left
 ·refine wnZ @ae ?_;exact b5 (jN fun i hi=>hz i (by omega)).symm
 have ix:=eI hk2;have hf:=CM (c.getD k default) (hs _ (bf hk2));cases hm:decide ((c.getD k default).length ≤ 10)
 ·rw [hm] at hf;rw [iu hk2 hm];refine wnZ (aI @ae @ix) ?_;exact .bool _
 ·rw [hm] at hf;refine wnZ (aI @ae @ix) ?_;exact ⟨hk2,rfl,ag0,rfl,rfl⟩
abbrev b9 (c:List Spx):AV:=.agg [aD c]
theorem eO (c:List Spx):Dat (b9 c):=Dat.agg (DatL.cons (cE c) DatL.nil)
instance datI_encCx {c:List Spx}:DatI (b9 c):=⟨eO c⟩
theorem Ca (c:List Spx) (hc:Shn c) (hs:∀ s ∈ c,Shn s):pU 41 [b9 c] (.bool (iY c)):=by
 refine pO HZ ?_;simp only [b41,aJ];have h:=Bd c hc hs;refine wnZ (aI @ak @ah) ?_;exact .bool _
end Go.Proofs.YtekdaafnjdlenaaGreat
namespace Go.Proofs.YtekdaafnjdlenaaGreat
open Go Go.Abs
theorem tZ {α:Type} [Inhabited α] {l:List α} {p:α→Bool} {k:Nat} (hk:k < l.length) (h:∀ i,i < k→p (l.getD i default)=false) (hv:p (l.getD k default)=true):l.any p=true∧l.findIdx p=k:=by
 have e:l.getD k default=l[k]:=by simp [List.getD,hk]
 refine ⟨nH.2 ⟨l[k],mR hk,by rw [← e]; exact hv⟩,(List.findIdx_eq hk).2 ⟨by rw [← e]; exact hv,fun j hj=>by have:=h j hj; rwa [show l.getD j default=l[j] by simp [List.getD,show j < l.length by omega]] at this⟩⟩
section
attribute [local irreducible] aA ag a8 aQ aK aL ar aN aU bd Go.Abs.Fn aP Go.Abs.Pure an aG Yl
end
end Go.Proofs.YtekdaafnjdlenaaGreat
namespace Go.Proofs.YtekdaafnjdlenaaGreat
open Go Go.Abs
open Nat (reduceEqDiff reduceAdd reduceLeDiff)
theorem yH {l:Spx} {j:Nat} (h:j < l.length):(l.drop j).getD 0 default=l.getD j default:=by simp [List.getD,jV]
theorem wE {l:Spx} {v:Vtx} (h:∀ i,i < l.length→l.getD i default ≠ v):v ∉ l:=fun hm=>by
 obtain ⟨i,hi,e⟩:=jx hm;exact h i hi (by simp [List.getD,hi,e])
theorem aC {α:Type} [Inhabited α] {l:List α} {i:Nat} (h:i < l.length):l.getD i default ∈ l:=bf h
attribute [local irreducible] aA ag a8 aQ aK aL ar aN aU bd Go.Abs.Fn aP Go.Abs.Pure an aG Yl
set_option maxHeartbeats 1000000 in
theorem Es (a b:Spx) (ha:cI cl a) (hb:cI cl b) (la:a.length ≤ 1000000) (lb:b.length ≤ 1000000):pU 158 [aB a,aB b] (.bool (dw a b)):=by
 refine pO Gg ?_;simp only [G7,aJ];refine wnZ @am ?_;refine bR (X:=Nat × Nat) (fun x=>[(1,aB (b.drop x.2)),(7,aB a),(8,.int .i64 a.length),(9,.int .i64 x.1)]) (fun x H nx=>x.1 ≤ a.length∧x.2 ≤ b.length∧(∀ i,i < x.1→decide (a.getD i default ∈ b)=true)∧∀ i m,i < x.2→x.1 ≤ m→m < a.length→b.getD i default ≠ a.getD m default) (fun x=>a.length - x.1) (0,0) ⟨bB _,bB _,fun i h=>absurd h (by omega),fun i m h=>absurd h (by omega)⟩ (by simp (disch:=omega) only [agr,ZG,reduceEqDiff,↓reduceIte,List.drop_zero]) ?_;rintro ⟨k,j⟩ H nx ⟨h1,h2,h3,h4⟩;dsimp only at h1 h2 h3 h4 ⊢;by_cases hk:k < a.length
 rotate_left
 ·refine wnY and_self ?_;exact b5 (jN fun i hi=>h3 i (by omega)).symm
 have ix:=ix2 hk;have hlt:∀ m,k < m→m < a.length→cl (a.getD k default) (a.getD m default) < 0:=fun m h5 h6=>dP ha h5 h6;have hkm:∀ j',(∀ i,i < j'→b.getD i default ≠ a.getD k default)→b.length ≤ j'→decide (a.getD k default ∈ b)=false:=fun j' h5 h6=>aS (wE fun i hi=>h5 i (by omega));have hall:decide (a.getD k default ∈ b)=false→dw a b=false:=fun h=>iu hk h;have hdec:=fun i=>tF (b.getD i default) (a.getD k default);have h40:=fun i hi=>h4 i k hi (aR _) hk;generalize hv:a.getD k default=v at *;refine wnY @ix ?_;refine bR (X:=Nat) (fun j'=>[(1,aB (b.drop j')),(6,.ptr nx 2 0),(7,aB a),(8,.int .i64 a.length),(9,.int .i64 k)]) (fun j' H' nx'=>j' ≤ b.length∧H' nx=some [.int .i64 v.color,.int .i64 v.label]∧nx < nx'∧∀ i,i < j'→b.getD i default ≠ v) (fun j'=>b.length - j') j ⟨h2,by rw [af]; rfl,by omega,h40⟩ (by simp (disch:=omega) only [agr,ZG,reduceEqDiff,↓reduceIte,dh,fu,b6,reduceAdd]) ?_;rintro j' H' nx' ⟨k1,g0,hnx,k2⟩;have hlen:(b.drop j').length=b.length - j':=vX ..;by_cases hj:j' < b.length
 rotate_left
 ·have z1:decide (0 < ((b.drop j').length:Int))=false:=aS (by omega);have z2:decide (((b.drop j').length:Int)=0)=true:=aX (by omega);rw [hall (hkm j' k2 (by omega))];refine wnY (zI3 @am @z1 @z2) ?_;exact .bool _
 have z1:decide (0 < ((b.drop j').length:Int))=true:=aX (by omega);have z2:decide (((b.drop j').length:Int)=0)=false:=aS (by omega);have iy:=ix2 (l:=b.drop j') (k:=0) (by omega);rw [yH hj,show ((0:Nat):Int)=0 from rfl] at iy;have hd:=hdec j';by_cases he:b.getD j' default=v
 ·rw [aX he] at hd;refine wnY (zI7 @am @z1 @z2 @iy @g0 @acn @hd) ?_;refine ⟨(k + 1,j'),by dsimp only; omega,⟨by dsimp only; omega,by dsimp only; omega,fun i hi=>?_,fun i m h5 h6 h7 e=>?_⟩,ag0⟩
  ·rcases ju.1 hi with h' | rfl
   ·exact h3 i h'
   ·rw [hv,← he]; exact aX (aC hj)
  ·have q1:=dP hb h5 hj;have q2:=hlt m (by dsimp only at h6; omega) h7;rw [e,he] at q1;exact vW.ord.asym _ _ q1 q2
 ·rw [aS he] at hd
  have hs:ig 2 (aB (b.drop j')) (some (.int .i64 1)) none none=some (aB (b.drop (j' + 1))):=by
   have:=iU (sz:=2) (f:=cL) (l:=b.drop j') (k:=1) (by omega);rw [List.drop_drop] at this;exact this
  refine wnY (zI8 @am @z1 @z2 @iy @g0 @acn @hd @hs) ?_
  exact ⟨j' + 1,by omega,⟨by omega,g0,hnx,fun i hi=>by
   rcases ju.1 hi with h' | rfl
   ·exact k2 i h'
   ·exact he⟩,ag0⟩
end Go.Proofs.YtekdaafnjdlenaaGreat
namespace Go.Proofs.YtekdaafnjdlenaaGreat
open Go Go.Abs
structure Cmp {α:Type} (P:Program) (f:α→AV) (K:α→α→Int) (G:α→Prop) (g:Nat) (caps:List AV):Prop where
 cells:∀ x,(f x).cells=[f x]
 one:∀ x,(f x).one=true
 dat:∀ x,Dat (f x)
 dcaps:∀ x ∈ caps,Dat x
 run:∀ x y,G x→G y→Go.Abs.Pure P g (f x :: f y :: caps) (.int .i64 (K x y))
 ord:Ord K
theorem kw {α:Type} {f:α→AV} {l:List α} {k:Nat} {x:α} (h:k < l.length):bu (l.map f) k [f x]=(l.set k x).map f:=by
 simp only [bu,List.map_set,dh,fu,b6];rw [Ep,if_pos (by simpa using h)];simp
theorem aV (H:Hp) (b:Nat) (x y:List AV):aj (aj H b x) b y=aj H b y:=by
 funext i; unfold aj; split <;> rfl
theorem kN {H:Hp} {b:Nat} {cs:List AV} (h:H b=some cs):H=aj H b cs:=by
 funext i
 by_cases e:i=b
 ·subst e; rw [af,h]
 ·rw [ab e]
def fI {α:Type} [Inhabited α] (K:α→α→Int) (a i j:Nat) (M:List α):Prop:=∀ p q,a ≤ p→p < q→q ≤ i→q ≠ j→¬ K (M.getD q default) (M.getD p default) < 0
section
variable {α:Type} [Inhabited α] {f:α→AV} {K:α→α→Int} {G:α→Prop} {g:Nat} {caps:List AV}
theorem fI.start {a i:Nat} {M:List α} (h:bi K a i M):fI K a i i M:=fun p q h1 h2 h3 h4=>h p q h1 h2 (by omega)
theorem fI.done {a i j:Nat} {M:List α} (hK:Ord K) (h:fI K a i j M) (hj:j=a ∨ (a < j∧¬ K (M.getD j default) (M.getD (j - 1) default) < 0)):bi K a (i + 1) M:=by
 intro p q h1 h2 h3;by_cases e:q=j
 ·subst e;rcases hj with hj | ⟨hj,hk⟩
  ·omega
  ·by_cases e2:p=q - 1
   ·rw [e2]; exact hk
   ·exact hK.negtr _ _ _ (h p (q - 1) h1 (by omega) (by omega) (by omega)) hk
 ·exact h p q h1 h2 (by omega) e
theorem fI.step {a i j:Nat} {M:List α} (hK:Ord K) (h:fI K a i (j + 1) M) (haj:a ≤ j) (hji:j + 1 ≤ i) (hi:i < M.length) (hk:K (M.getD (j + 1) default) (M.getD j default) < 0):fI K a i j (swp M (j + 1) j):=by
 intro p q h1 h2 h3 h4;rw [d3 (by omega) (by omega),d3 (by omega) (by omega)];rw [if_neg h4];by_cases e1:q=j + 1
 ·rw [if_pos e1];by_cases e2:p=j
  ·rw [if_pos e2]; exact hK.asym _ _ hk
  ·rw [if_neg e2,if_neg (by omega)];exact h p j h1 (by omega) (by omega) (by omega)
 ·rw [if_neg e1];by_cases e2:p=j
  ·rw [if_pos e2]; exact h (j + 1) q (by omega) (by omega) h3 e1
  ·rw [if_neg e2];by_cases e3:p=j + 1
   ·rw [if_pos e3]; exact h j q (by omega) (by omega) h3 e1
   ·rw [if_neg e3]; exact h p q h1 h2 h3 e1
theorem bi.mono {a b a' b':Nat} {M:List α} (h:bi K a b M) (h1:a ≤ a') (h2:b' ≤ b):bi K a' b' M:=fun p q k1 k2 k3=>h p q (by omega) k2 (by omega)
theorem PermR.mem {a b:Nat} {L M:List α} (h:PermR a b L M) (hG:∀ x ∈ L,G x):∀ x ∈ M,G x:=fun x hx=>hG x (h.perm.mem_iff.1 hx)
attribute [local irreducible] aA ag a8 aQ aK aL ar aN aU bd Go.Abs.Fn aP Go.Abs.Pure an aG Yl
theorem Gf (hc:Cmp Tryz.prog f K G g caps) {L:List α} {H:Hp} {b nx n a e:Nat} (hH:H b=some (L.map f)) (hn:L.length=n) (hG:∀ x ∈ L,G x) (hae:a ≤ e) (hen:e ≤ n) (hn2:n ≤ 1000000000) :
    Abs.Fn Tryz.prog 166 [.msl b n 1 0 n,.int .i64 a,.int .i64 e,.func g caps] H nx fun r H' nx'=>nx'=nx∧∃ L',H'=aj H b (L'.map f)∧PermR a e L L'∧bi K a e L':=by
 refine fO Di ?_;simp only [DD,aJ];refine wnZ and_self ?_;refine bR (X:=Nat × List α) (fun x=>[(0,.msl b n 1 0 n),(1,.int .i64 a),(2,.int .i64 e),(3,.func g caps),(8,.int .i64 (x.1:Nat))]) (fun x H' nx'=>a + 1 ≤ x.1∧(x.1 ≤ e ∨ x.1=a + 1)∧H'=aj H b (x.2.map f)∧nx'=nx∧PermR a e L x.2∧bi K a x.1 x.2) (fun x=>e + 1 - x.1) (a + 1,L) ⟨aR _,.inr rfl,kN hH,rfl,.refl,bi.one (aR _)⟩ ag0 ?_;rintro ⟨i,M0⟩ H' nx' ⟨h1,h2,rfl,rfl,hp0,hs0⟩;dsimp only at *;have hl0:M0.length=n:=by rw [hp0.len,hn]
 by_cases hi:i < e
 rotate_left
 ·refine wnZ and_self ?_;exact ⟨rfl,M0,rfl,hp0,hs0.mono (aR _) (by omega)⟩
 refine wnZ and_self ?_;refine bR (X:=Nat × List α) (fun x=>[(0,.msl b n 1 0 n),(1,.int .i64 a),(2,.int .i64 e),(3,.func g caps),(8,.int .i64 (i:Nat)),(9,.int .i64 (x.1:Nat))]) (fun x H' nxx=>a ≤ x.1∧x.1 ≤ i∧H'=aj H b (x.2.map f)∧nxx=nx'∧PermR a e L x.2∧fI K a i x.1 x.2) (fun x=>x.1) (i,M0) ⟨by omega,aR _,rfl,rfl,hp0,.start hs0⟩ ag0 ?_;clear hp0 hs0 hl0;rintro ⟨j,M⟩ H' nxx ⟨a1,a2,rfl,rfl,hp,hal⟩;dsimp only at *;have hl:M.length=n:=by rw [hp.len,hn]
 have hGM:=hp.mem hG;by_cases hja:j=a
 ·subst hja;refine wkZ and_self ?_;exact ⟨(i + 1,M),by dsimp only; omega,⟨by dsimp only; omega,.inl (by dsimp only; omega),rfl,rfl,hp,hal.done hc.ord (.inl rfl)⟩,ag0⟩
 ·obtain ⟨k,rfl⟩:∃ k,j=k + 1:=⟨j - 1,by omega⟩
  have tj:((k + 1:Nat):Int) - 1=(k:Int):=by omega
  have lc:=hc.run (M.getD (k + 1) default) (M.getD k default) (hGM _ (bf (by omega))) (hGM _ (bf (by omega)));have d1:=hc.dat (M.getD (k + 1) default);have d2:=hc.dat (M.getD k default);have dcap:=hc.dcaps;generalize hKK:K (M.getD (k + 1) default) (M.getD k default)=kk at lc;by_cases hlt:kk < 0
  ·obtain ⟨M1,hl1,lm1,lm2⟩:∃ M1:List α,M1.length=n∧bu (M.map f) (k + 1) [f (M.getD k default)]=M1.map f∧bu (M1.map f) k [f (M.getD (k + 1) default)]=(swp M (k + 1) k).map f :=
     ⟨M.set (k + 1) (M.getD k default),by simp [hl],kw (by omega),by rw [kw (by simp; omega)]; rfl⟩
   have lm3:=lm2;simp only [bu,dh,fu,b6] at lm1 lm2;have zz:=aI @tj (aI @cm (aI @lm1 (aI @lm2 (aI hc.cells hc.one)))); repeat' (first|refine zW ?_|refine zM ?_|apply a_n|refine zO ?_|refine vZ ?_|refine cZ ?_ (hp:=lc) (hs:=by (first | refine aH ?_ rfl | apply aW); (repeat' (first | exact ao | apply br | apply aY | exact d1 | exact d2 | exact a7 dcap)); first | done | fail)|refine stZ ?_|refine gTZ ?_|(refine zGZ ?_ ?_ <;> (intro _hg; try (exfalso; omega)))|fail)
   refine ⟨(k,swp M (k + 1) k),by dsimp only; omega,⟨by dsimp only; omega,by dsimp only; omega,?_,rfl,hp.trans (PermR.swap (by omega) (by omega) (by omega)),hal.step hc.ord (by omega) (by omega) (by omega) (by rw [hKK]; exact hlt)⟩,(have zz:=@tj; agZ)⟩;dsimp only;rw [aV,aV,lm3]
  ·have zz:=aI @tj (aI @cm (aI hc.cells hc.one)); repeat' (first|refine zW ?_|refine zM ?_|apply a_n|apply a_x|refine zO ?_|refine vZ ?_|refine cZ ?_ (hp:=lc) (hs:=by (first | refine aH ?_ rfl | apply aW); (repeat' (first | exact ao | apply br | apply aY | exact d1 | exact d2 | exact a7 dcap)); first | done | fail)|refine gTZ ?_|(refine zGZ ?_ ?_ <;> (intro _hg; try (exfalso; omega)))|fail)
   exact ⟨(i + 1,M),by dsimp only; omega,⟨by dsimp only; omega,.inl (by dsimp only; omega),rfl,rfl,hp,hal.done hc.ord (.inr ⟨by omega,by rw [rc,hKK]; exact hlt⟩)⟩,ag0⟩
end
end Go.Proofs.YtekdaafnjdlenaaGreat
namespace Go.Proofs.YtekdaafnjdlenaaGreat
open Go Go.Abs
def Kid (p c:Nat):Prop:=c=2 * p + 1 ∨ c=2 * p + 2
def gj {α:Type} [Inhabited α] (K:α→α→Int) (a hi r:Nat) (M:List α):Prop:=∀ p c,r ≤ p→Kid p c→c < hi→¬ K (M.getD (a + p) default) (M.getD (a + c) default) < 0
structure SiftR {α:Type} [Inhabited α] (K:α→α→Int) (a hi lo root:Nat) (M:List α):Prop where
 le:lo ≤ root
 heap:∀ p c,lo ≤ p→p ≠ root→Kid p c→c < hi→¬ K (M.getD (a + p) default) (M.getD (a + c) default) < 0
 up:∀ q c,lo ≤ q→Kid q root→Kid root c→c < hi→¬ K (M.getD (a + q) default) (M.getD (a + c) default) < 0
section
variable {α:Type} [Inhabited α] {f:α→AV} {K:α→α→Int} {G:α→Prop} {g:Nat} {caps:List AV}
theorem SiftR.start {a hi lo:Nat} {M:List α} (h:gj K a hi (lo + 1) M):SiftR K a hi lo lo M :=
 ⟨aR _,fun p c h1 h2=>h p c (by omega),fun q c h1 h2=>by unfold Kid at h2; omega⟩
theorem SiftR.leaf {a hi lo root:Nat} {M:List α} (h:SiftR K a hi lo root M) (hr:hi ≤ 2 * root + 1):gj K a hi lo M:=fun p c h1 h2 h3=>by
 by_cases e:p=root
 ·subst e; unfold Kid at h2; omega
 ·exact h.heap p c h1 e h2 h3
theorem SiftR.stop {a hi lo root c:Nat} {M:List α} (hK:Ord K) (h:SiftR K a hi lo root M) (hb:∀ d,Kid root d→d < hi→¬ K (M.getD (a + c) default) (M.getD (a + d) default) < 0) (hn:¬ K (M.getD (a + root) default) (M.getD (a + c) default) < 0):gj K a hi lo M:=fun p d h1 h2 h3=>by
 by_cases e:p=root
 ·subst e; exact hK.negtr _ _ _ (hb d h2 h3) hn
 ·exact h.heap p d h1 e h2 h3
theorem SiftR.step {a hi lo root c:Nat} {M:List α} (hK:Ord K) (h:SiftR K a hi lo root M) (hkid:Kid root c) (hc:c < hi) (hM:a + hi ≤ M.length) (hb:∀ d,Kid root d→d < hi→¬ K (M.getD (a + c) default) (M.getD (a + d) default) < 0) (hn:K (M.getD (a + root) default) (M.getD (a + c) default) < 0):SiftR K a hi lo c (swp M (a + root) (a + c)):=by
 have hrc:root < c:=by unfold Kid at hkid; omega
 have hg:∀ k,(swp M (a + root) (a + c)).getD (a + k) default=if k=c then M.getD (a + root) default else if k=root then M.getD (a + c) default else M.getD (a + k) default:=fun k=>by
  rw [d3 (by omega) (by omega)];by_cases e:k=c
  ·rw [if_pos (by omega),if_pos e]
  ·rw [if_neg (by omega),if_neg e];by_cases e2:k=root
   ·rw [if_pos (by omega),if_pos e2]
   ·rw [if_neg (by omega),if_neg e2]
 refine ⟨by have:=h.le; omega,fun p d h1 h2 h3 h4=>?_,fun q d h1 h2 h3 h4=>?_⟩
 ·rw [hg,hg,if_neg h2];by_cases e1:p=root
  ·rw [if_pos e1];subst e1;by_cases e2:d=c
   ·rw [if_pos e2]; exact hK.asym _ _ hn
   ·rw [if_neg e2,if_neg (by unfold Kid at h3; omega)]; exact hb d h3 h4
  ·rw [if_neg e1];have hdc:d ≠ c:=fun e=>by subst e; unfold Kid at h3 hkid; omega
   rw [if_neg hdc];by_cases e2:d=root
   ·rw [if_pos e2]; subst e2; exact h.up p c h1 h3 hkid hc
   ·rw [if_neg e2]; exact h.heap p d h1 e1 h3 h4
 ·have eq:q=root:=by unfold Kid at h2 hkid; omega
  subst eq;rw [hg,hg,if_neg (by omega),if_pos rfl,if_neg (by unfold Kid at h3; omega),if_neg (by unfold Kid at h3; omega)];exact h.heap c d (by omega) (by omega) h3 h4
theorem dl {M:List α} {i j:Nat} (hi:i < M.length) (hj:j < M.length):∃ M1:List α,M1.length=M.length∧bu (M.map f) i [f (M.getD j default)]=M1.map f∧bu (M1.map f) j [f (M.getD i default)]=(swp M i j).map f :=
 ⟨M.set i (M.getD j default),by simp,kw hi,by rw [kw (by simpa using hj)]; rfl⟩
theorem fA {a c:Nat}:((a:Int) + (c:Int)).toNat=a + c:=by omega
theorem nR {a c:Nat}:((a:Int) + (c:Int) + 1).toNat=a + (c + 1):=by omega
attribute [local irreducible] aA ag a8 aQ aK aL ar aN aU bd Go.Abs.Fn aP Go.Abs.Pure an aG Yl
theorem BV (hc:Cmp Tryz.prog f K G g caps) {L:List α} {H:Hp} {b nx n a lo hi:Nat} (hH:H b=some (L.map f)) (hn:L.length=n) (hG:∀ x ∈ L,G x) (hhi:a + hi ≤ n) (hn2:n ≤ 1000000000) (hlo:lo ≤ n) (hheap:gj K a hi (lo + 1) L) :
    Abs.Fn Tryz.prog 197 [.msl b n 1 0 n,.int .i64 lo,.int .i64 hi,.int .i64 a,.func g caps] H nx fun r H' nx'=>nx'=nx∧∃ L',H'=aj H b (L'.map f)∧PermR a (a + hi) L L'∧gj K a hi lo L':=by
 refine fO Fo ?_;simp only [EX,aJ];refine wnZ and_self ?_;refine bR (X:=Nat × List α) (fun x=>[(0,.msl b n 1 0 n),(2,.int .i64 hi),(3,.int .i64 a),(4,.func g caps),(10,.int .i64 (x.1:Nat))]) (fun x H' nx'=>x.1 ≤ n∧H'=aj H b (x.2.map f)∧nx'=nx∧PermR a (a + hi) L x.2∧SiftR K a hi lo x.1 x.2) (fun x=>n + 1 - x.1) (lo,L) ⟨hlo,kN hH,rfl,.refl,.start hheap⟩ ag0 ?_;rintro ⟨root,M⟩ H' nx' ⟨h0,rfl,rfl,hp,hs⟩;dsimp only at *;have hl:M.length=n:=by rw [hp.len,hn]
 have hGM:=hp.mem hG;by_cases hch:2 * root + 1 < hi
 rotate_left
 ·refine wnZ and_self ?_;exact ⟨rfl,M,rfl,hp,hs.leaf (by omega)⟩
 have dcap:=hc.dcaps;have tch:(2:Int) * (root:Int) + 1=((2 * root + 1:Nat):Int):=by omega
 have tch2:((2 * root + 1:Nat):Int) + 1=((2 * root + 1 + 1:Nat):Int):=by omega
 have w1:IntKind.wrap .i64 (2 * (root:Int))=2 * (root:Int):=sX (by omega) (by omega)
 obtain ⟨c,hkid,hchi,hbest,hsel⟩:∃ c,Kid root c∧c < hi∧(∀ d,Kid root d→d < hi→¬ K (M.getD (a + c) default) (M.getD (a + d) default) < 0)∧((c=2 * root + 1 + 1∧K (M.getD (a + (2 * root + 1)) default) (M.getD (a + (2 * root + 1 + 1)) default) < 0) ∨ (c=2 * root + 1∧(2 * root + 1 + 1 < hi→¬ K (M.getD (a + (2 * root + 1)) default) (M.getD (a + (2 * root + 1 + 1)) default) < 0))):=by
  by_cases h2:2 * root + 1 + 1 < hi∧K (M.getD (a + (2 * root + 1)) default) (M.getD (a + (2 * root + 1 + 1)) default) < 0
  ·refine ⟨2 * root + 1 + 1,.inr rfl,h2.1,fun d hd hd2=>?_,.inl ⟨rfl,h2.2⟩⟩;rcases hd with rfl | rfl
   ·exact hc.ord.asym _ _ h2.2
   ·exact hc.ord.irr _
  ·refine ⟨2 * root + 1,.inl rfl,hch,fun d hd hd2=>?_,.inr ⟨rfl,fun h h3=>h2 ⟨h,h3⟩⟩⟩;rcases hd with rfl | rfl
   ·exact hc.ord.irr _
   ·exact fun h3=>h2 ⟨hd2,h3⟩
 have lc2:=hc.run (M.getD (a + root) default) (M.getD (a + c) default) (hGM _ (bf (by omega))) (hGM _ (bf (by omega)));have e1:=hc.dat (M.getD (a + root) default);have e2:=hc.dat (M.getD (a + c) default);generalize hK2:K (M.getD (a + root) default) (M.getD (a + c) default)=k2 at lc2;refine jh ?_;refine b7 (fun T H'' nx''=>T 0=.msl b n 1 0 n∧T 2=.int .i64 hi∧T 3=.int .i64 a∧T 4=.func g caps∧T 10=.int .i64 (root:Nat)∧T 11=.int .i64 ((2 * root + 1:Nat):Int)∧H''=aj H b (M.map f)∧nx'=nx'') ?_ ?_
 ·refine wnZ (aI @w1 @tch) ?_;exact ⟨rfl,rfl,rfl,rfl,rfl,rfl,rfl,rfl⟩
 rintro T _ _ ⟨t0,t2,t3,t4,t10,t11,rfl,rfl⟩;refine b7 (fun T H'' nx''=>T 0=.msl b n 1 0 n∧T 2=.int .i64 hi∧T 3=.int .i64 a∧T 4=.func g caps∧T 10=.int .i64 (root:Nat)∧T 11=.int .i64 ((2 * root + 1:Nat):Int)∧H''=aj H b (M.map f)∧nx'=nx'') ?_ ?_
 ·refine wnZ (zI6 @t0 @t2 @t3 @t4 @t10 @t11) ?_
  all_goals exact ⟨(have zz:=@t0; evZ),(have zz:=@t2; evZ),(have zz:=@t3; evZ),(have zz:=@t4; evZ),(have zz:=@t10; evZ),(have zz:=@t11; evZ),rfl,rfl⟩
 clear t0 t2 t3 t4 t10 t11;rintro T _ _ ⟨t0,t2,t3,t4,t10,t11,rfl,rfl⟩;refine b7 (fun T H'' nx''=>T 0=.msl b n 1 0 n∧T 2=.int .i64 hi∧T 3=.int .i64 a∧T 4=.func g caps∧T 10=.int .i64 (root:Nat)∧T 11=.int .i64 (c:Nat)∧H''=aj H b (M.map f)∧nx'=nx'') ?_ ?_
 ·by_cases h2:2 * root + 1 + 1 < hi
  ·have lc1:=hc.run (M.getD (a + (2 * root + 1)) default) (M.getD (a + (2 * root + 1 + 1)) default) (hGM _ (bf (by omega))) (hGM _ (bf (by omega)));have e3:=hc.dat (M.getD (a + (2 * root + 1)) default);have e4:=hc.dat (M.getD (a + (2 * root + 1 + 1)) default);generalize hK1:K (M.getD (a + (2 * root + 1)) default) (M.getD (a + (2 * root + 1 + 1)) default)=k1 at lc1 hsel;have hlt:decide (((2 * root + 1 + 1:Nat):Int) < (hi:Int))=true:=aX (by omega);generalize 2 * root + 1=ch at *;rcases hsel with ⟨rfl,hk1⟩ | ⟨rfl,hk1⟩
   ·have zz:=aI @t0 (aI @t2 (aI @t3 (aI @t4 (aI @t10 (aI @t11 (aI @tch2 (aI @hlt (aI @fA (aI @nR (aI hc.cells hc.one)))))))))); repeat' (first|refine zW ?_|refine zM ?_|apply a_n|refine zO ?_|refine vZ ?_|refine cZ ?_ (hp:=lc1) (hs:=by (first | refine aH ?_ rfl | apply aW); (repeat' (first | exact ao | apply br | apply aY | exact e3 | exact e4 | exact a7 dcap)); first | done | fail)|refine gTZ ?_|(refine zGZ ?_ ?_ <;> (intro _hg; try (exfalso; omega)))|fail)
    all_goals exact ⟨(have zz:=@t0; evZ),(have zz:=@t2; evZ),(have zz:=@t3; evZ),(have zz:=@t4; evZ),(have zz:=@t10; evZ),(have zz:=@t11; evZ),rfl,rfl⟩
   ·have hk1:=hk1 h2;have zz:=aI @t0 (aI @t2 (aI @t3 (aI @t4 (aI @t10 (aI @t11 (aI @tch2 (aI @hlt (aI @fA (aI @nR (aI hc.cells hc.one)))))))))); repeat' (first|refine zW ?_|refine zM ?_|apply a_n|refine zO ?_|refine vZ ?_|refine cZ ?_ (hp:=lc1) (hs:=by (first | refine aH ?_ rfl | apply aW); (repeat' (first | exact ao | apply br | apply aY | exact e3 | exact e4 | exact a7 dcap)); first | done | fail)|refine gTZ ?_|(refine zGZ ?_ ?_ <;> (intro _hg; try (exfalso; omega)))|fail)
    all_goals exact ⟨(have zz:=@t0; evZ),(have zz:=@t2; evZ),(have zz:=@t3; evZ),(have zz:=@t4; evZ),(have zz:=@t10; evZ),(have zz:=@t11; evZ),rfl,rfl⟩
  ·have hlt:decide (((2 * root + 1 + 1:Nat):Int) < (hi:Int))=false:=aS (by omega)
   have hcc:c=2 * root + 1:=by
    rcases hsel with ⟨rfl,_⟩ | ⟨rfl,_⟩
    ·omega
    ·rfl
   subst hcc;refine wkZ (zI8 @t0 @t2 @t3 @t4 @t10 @t11 @tch2 @hlt) ?_
   all_goals exact ⟨(have zz:=@t0; evZ),(have zz:=@t2; evZ),(have zz:=@t3; evZ),(have zz:=@t4; evZ),(have zz:=@t10; evZ),(have zz:=@t11; evZ),rfl,rfl⟩
 clear t0 t2 t3 t4 t10 t11 hsel;rintro T _ _ ⟨t0,t2,t3,t4,t10,t11,rfl,rfl⟩;by_cases hk2:k2 < 0
 ·obtain ⟨M1,hl1,lm1,lm2⟩:=dl (f:=f) (M:=M) (i:=a + root) (j:=a + c) (by omega) (by omega);have lm3:=lm2;simp only [bu,dh,fu,b6] at lm1 lm2;have zz:=aI @t0 (aI @t2 (aI @t3 (aI @t4 (aI @t10 (aI @t11 (aI @fA (aI @lm1 (aI @lm2 (aI hc.cells hc.one))))))))); repeat' (first|refine zW ?_|refine zM ?_|apply a_n|refine zO ?_|refine vZ ?_|refine cZ ?_ (hp:=lc2) (hs:=by (first | refine aH ?_ rfl | apply aW); (repeat' (first | exact ao | apply br | apply aY | exact e1 | exact e2 | exact a7 dcap)); first | done | fail)|refine stZ ?_|(refine zGZ ?_ ?_ <;> (intro _hg; try (exfalso; omega)))|fail)
  have hrc:root < c:=by unfold Kid at hkid; omega
  have hcn:c < n:=by omega
  refine ⟨(c,swp M (a + root) (a + c)),by dsimp only; omega,⟨by dsimp only; omega,?_,rfl,hp.trans (PermR.swap (by omega) (by omega) (by omega)),hs.step hc.ord hkid hchi (by omega) hbest (by rw [hK2]; exact hk2)⟩,(have zz:=aI @t0 (aI @t2 (aI @t3 @t4)); agZ)⟩;dsimp only;rw [aV,aV,lm3]
 ·have zz:=aI @t0 (aI @t2 (aI @t3 (aI @t4 (aI @t10 (aI @t11 (aI @fA (aI hc.cells hc.one))))))); repeat' (first|refine zW ?_|refine zM ?_|apply a_n|apply a_r|refine zO ?_|refine vZ ?_|refine cZ ?_ (hp:=lc2) (hs:=by (first | refine aH ?_ rfl | apply aW); (repeat' (first | exact ao | apply br | apply aY | exact e1 | exact e2 | exact a7 dcap)); first | done | fail)|(refine zGZ ?_ ?_ <;> (intro _hg; try (exfalso; omega)))|refine b4 rfl ?_|fail)
  exact ⟨rfl,M,rfl,hp,hs.stop hc.ord hbest (by rw [hK2]; exact hk2)⟩
end
end Go.Proofs.YtekdaafnjdlenaaGreat
namespace Go.Proofs.YtekdaafnjdlenaaGreat
open Go Go.Abs
open Nat (reduceEqDiff reduceAdd reduceLeDiff)
section
variable {α:Type} [Inhabited α] {f:α→AV} {K:α→α→Int} {G:α→Prop} {g:Nat} {caps:List AV}
theorem gj.top {a hi:Nat} {M:List α} (hK:Ord K) (h:gj K a hi 0 M):∀ p,p < hi→¬ K (M.getD a default) (M.getD (a + p) default) < 0:=by
 intro p
 induction p using Nat.strongRecOn with
 | ind p ih =>
  intro hp;by_cases e:p=0
  ·subst e; exact hK.irr _
  ·have k:Kid ((p - 1) / 2) p:=by unfold Kid; omega
   exact hK.negtr _ _ _ (h _ p (bB _) k hp) (ih ((p - 1) / 2) (by omega) (by omega))
structure TailR {α:Type} [Inhabited α] (K:α→α→Int) (a e k:Nat) (M:List α):Prop where
 sort:bi K k e M
 ge:∀ p q,a ≤ p→p < k→k ≤ q→q < e→¬ K (M.getD q default) (M.getD p default) < 0
theorem TailR.step {a e k:Nat} {M N:List α} (hK:Ord K) (ht:TailR K a e (a + (k + 1)) M) (hh:gj K a (k + 1) 0 M) (he:a + (k + 1) ≤ e) (hM:e ≤ M.length) (hp:PermR a (a + k) (swp M a (a + k)) N):TailR K a e (a + k) N:=by
 have hg:∀ j,(swp M a (a + k)).getD j default=if j=a + k then M.getD a default else if j=a then M.getD (a + k) default else M.getD j default:=fun j=>d3 (by omega) (by omega) j
 have hmax:=hh.top hK
 have lo:∀ q,a + k ≤ q→q < e→∀ p,a ≤ p→p < a + k→¬ K (N.getD q default) (N.getD p default) < 0:=by
  intro q h1 h2;rw [hp.out q (.inr h1),hg];have hl:(swp M a (a + k)).length=M.length:=yd _ _;refine hp.all (p:=fun x=>¬ K (if q=a + k then M.getD a default else if q=a then M.getD (a + k) default else M.getD q default) x < 0) (by omega) (by omega) ?_;intro p k1 k2;rw [hg,if_neg (by omega:¬ p=a + k)];by_cases e1:q=a + k
  ·rw [if_pos e1];by_cases e2:p=a
   ·rw [if_pos e2]; exact hmax k (by omega)
   ·rw [if_neg e2];have:=hmax (p - a) (by omega);rw [show a + (p - a)=p by omega] at this;exact this
  ·rw [if_neg e1,if_neg (by omega:¬ q=a)];by_cases e2:p=a
   ·rw [if_pos e2]; exact ht.ge (a + k) q (by omega) (by omega) (by omega) h2
   ·rw [if_neg e2]; exact ht.ge p q k1 (by omega) (by omega) h2
 refine ⟨fun p q h1 h2 h3=>?_,fun p q h1 h2 h3 h4=>lo q h3 h4 p h1 h2⟩;rw [hp.out p (.inr h1),hp.out q (.inr (by omega)),hg,hg,if_neg (by omega:¬ q=a + k),if_neg (by omega:¬ q=a)];by_cases e1:p=a + k
 ·rw [if_pos e1]; exact ht.ge a q (aR _) (by omega) (by omega) h3
 ·rw [if_neg e1,if_neg (by omega:¬ p=a)]; exact ht.sort p q (by omega) h2 h3
theorem gj.swapTop {a k:Nat} {M:List α} (h:gj K a (k + 1) 0 M) (hM:a + (k + 1) ≤ M.length):gj K a k 1 (swp M a (a + k)):=by
 intro p c h1 h2 h3;have hg:∀ j,(swp M a (a + k)).getD j default=if j=a + k then M.getD a default else if j=a then M.getD (a + k) default else M.getD j default:=fun j=>d3 (by omega) (by omega) j
 have:p < c:=by unfold Kid at h2; omega
 rw [hg,hg,if_neg (by omega),if_neg (by omega),if_neg (by omega),if_neg (by omega)];exact h p c (bB _) h2 (by omega)
theorem TailR.start {a e:Nat} {M:List α}:TailR K a e e M:=⟨fun p q h1 h2 h3=>by omega,fun p q h1 h2 h3 h4=>by omega⟩
theorem TailR.done {a e:Nat} {M:List α} (h:TailR K a e a M):bi K a e M:=h.sort
theorem gj.start {a hi r:Nat} {M:List α} (hr:hi ≤ 2 * r + 1):gj K a hi r M:=fun p c h1 h2 h3=>by unfold Kid at h2; omega
attribute [local irreducible] aA ag a8 aQ aK aL ar aN aU bd Go.Abs.Fn aP Go.Abs.Pure an aG Yl
theorem DU (hc:Cmp Tryz.prog f K G g caps) {L:List α} {H:Hp} {b nx n a e:Nat} (hH:H b=some (L.map f)) (hn:L.length=n) (hG:∀ x ∈ L,G x) (hae:a ≤ e) (hen:e ≤ n) (hn2:n ≤ 1000000000) :
    Abs.Fn Tryz.prog 167 [.msl b n 1 0 n,.int .i64 a,.int .i64 e,.func g caps] H nx fun r H' nx'=>nx'=nx∧∃ L',H'=aj H b (L'.map f)∧PermR a e L L'∧bi K a e L':=by
 obtain ⟨h,rfl⟩:∃ h,e=a + h:=⟨e - a,by omega⟩
 refine fO FT ?_;simp only [ET,aJ];have dcap:=hc.dcaps;have te:((a + h:Nat):Int) - (a:Int)=(h:Int):=by omega
 obtain ⟨r,tr,hr,hrn⟩:∃ r:Nat,bc .quo false false (.int .i64 ((h:Int) - 1)) (.int .i64 2)=some (.int .i64 (r:Int))∧h ≤ 2 * (r + 1) + 1∧r ≤ h:=by
  rcases we h with e | e
  ·subst e; exact ⟨0,rfl,by omega,by omega⟩
  ·refine ⟨(h - 1) / 2,?_,by omega,by omega⟩;rw [oV (by omega) (by omega) (by omega)]
   congr 2
   omega
 refine wnZ (aI @te @tr) ?_;refine bR (X:=Nat × List α) (fun x=>[(0,.msl b n 1 0 n),(1,.int .i64 a),(3,.func g caps),(8,.int .i64 a),(9,.int .i64 0),(10,.int .i64 h),(11,.int .i64 ((x.1:Nat) - 1))]) (fun x H' nxx=>x.1 ≤ n + 1∧H'=aj H b (x.2.map f)∧nx=nxx∧PermR a (a + h) L x.2∧gj K a h x.1 x.2) (fun x=>x.1) (r + 1,L) ⟨by dsimp only; omega,kN hH,rfl,.refl,gj.start (by dsimp only; omega)⟩ (by simp (disch:=omega) only [agr,ZG,reduceEqDiff,↓reduceIte,Int.add_sub_cancel]) ?_;rintro ⟨i,M⟩ H' nxx ⟨h1,rfl,rfl,hp,hh⟩;dsimp only at *;have hl:M.length=n:=by rw [hp.len,hn]
 have hGM:=hp.mem hG;rcases we i with e | e
 ·subst e;refine wnZ and_self ?_;clear hGM;refine bR (X:=Nat × List α) (fun x=>[(0,.msl b n 1 0 n),(3,.func g caps),(8,.int .i64 a),(9,.int .i64 0),(12,.int .i64 ((x.1:Nat) - 1))]) (fun x H' nxx'=>x.1 ≤ h∧H'=aj H b (x.2.map f)∧nx=nxx'∧PermR a (a + h) L x.2∧gj K a x.1 0 x.2∧TailR K a (a + h) (a + x.1) x.2) (fun x=>x.1) (h,M) ⟨aR _,rfl,rfl,hp,hh,.start⟩ (by simp (disch:=omega) only [agr,ZG,reduceEqDiff,↓reduceIte,Int.add_sub_cancel]) ?_;clear hp hh hl;rintro ⟨i,M⟩ H' nxx ⟨h1,rfl,rfl,hp,hh,ht⟩;dsimp only at *;have hl:M.length=n:=by rw [hp.len,hn]
  have hGM:=hp.mem hG;rcases we i with e | e
  ·subst e;refine wnZ and_self ?_;exact ⟨rfl,M,rfl,hp,ht.done⟩
  ·obtain ⟨k,rfl⟩:∃ k,i=k + 1:=⟨i - 1,by omega⟩
   have tj:((k + 1:Nat):Int) - 1=(k:Int):=by omega
   obtain ⟨M1,hl1,lm1,lm2⟩:=dl (f:=f) (M:=M) (i:=a) (j:=a + k) (by omega) (by omega);have lm3:=lm2;simp only [bu,dh,fu,b6] at lm1 lm2;have hp1:PermR a (a + h) L (swp M a (a + k)):=hp.trans (PermR.swap (by omega) (by omega) (by omega));have hsl:(swp M a (a + k)).length=n:=by rw [hp1.len,hn]
   refine wnZ (zI6 @tj @fA @lm1 @lm2 hc.cells hc.one) ?_;refine bg ev0 (have zz:=aI @tj @Int.natCast_zero; evZ) (BV hc (b:=b) (L:=swp M a (a + k)) (a:=a) (lo:=0) (hi:=k) (by rw [aV,aV,af,← lm3]) hsl (hp1.mem hG) (by omega) (by omega) (by omega) (hh.swapTop (by omega))) ?_;rintro _ _ _ ⟨rfl,N,rfl,hpN,hhN⟩;refine wnZ @tj ?_;exact ⟨(k,N),by dsimp only; omega,⟨by dsimp only; omega,by dsimp only; rw [aV,aV,aV],rfl,hp1.trans (hpN.mono (aR _) (by omega)),hhN,ht.step hc.ord hh (by omega) (by omega) hpN⟩,ag0⟩
 ·obtain ⟨k,rfl⟩:∃ k,i=k + 1:=⟨i - 1,by omega⟩
  have tj:((k + 1:Nat):Int) - 1=(k:Int):=by omega
  refine wnZ @tj ?_;refine bg ev0 ev0 (BV hc (L:=M) (a:=a) (lo:=k) (hi:=h) af hl hGM (by omega) (by omega) (by omega) hh) ?_;rintro _ _ _ ⟨rfl,N,rfl,hpN,hhN⟩;refine wnZ @tj ?_;exact ⟨(k,N),by dsimp only; omega,⟨by dsimp only; omega,by dsimp only; rw [aV],rfl,hp.trans hpN,hhN⟩,ag0⟩
end
end Go.Proofs.YtekdaafnjdlenaaGreat
namespace Go.Proofs.YtekdaafnjdlenaaGreat
open Go Go.Abs
section
variable {α:Type} [Inhabited α] {f:α→AV} {K:α→α→Int} {G:α→Prop} {g:Nat} {caps:List AV}
def EV:AV→Option AV
 | .ptr b n o=>some (.ptr b n o)
 | .iptr c o=>some (.iptr c o)
 | .func f c=>some (.func f c)
 | _=>none
theorem SV3:(∀ (T:Tm) (H:Hp) (x:Opd),bl T H (.nilck x)=EV (ov T x))∧(∀ b n o:Nat,EV (.ptr b n o)=some (.ptr b n o)):=⟨fun T H x=>by
 simp only [bl];cases ov T x <;> rfl,fun _ _ _=>rfl⟩
attribute [local irreducible] aA ag a8 aQ aK aL ar aN aU bd Go.Abs.Fn aP Go.Abs.Pure an aG Yl
theorem FA (hc:Cmp Tryz.prog f K G g caps) {L:List α} {H:Hp} {b nx n a e:Nat} (hH:H b=some (L.map f)) (hn:L.length=n) (hae:a < e) (hen:e ≤ n) (hn2:n ≤ 1000000000) :
    Abs.Fn Tryz.prog 170 [.msl b n 1 0 n,.int .i64 a,.int .i64 e,.func g caps] H nx fun r H' nx'=>nx'=nx∧∃ L',H'=aj H b (L'.map f)∧PermR a e L L':=by
 obtain ⟨m,rfl⟩:∃ m,e=m + 1:=⟨e - 1,by omega⟩
 have te:((m + 1:Nat):Int) - 1=(m:Int):=by omega
 refine fO GD ?_;simp only [Gr,aJ];refine wnZ @te ?_;refine bR (X:=Nat × Nat × List α) (fun x=>[(0,.msl b n 1 0 n),(8,.int .i64 (x.1:Nat)),(9,.int .i64 (x.2.1:Nat))]) (fun x H' nxx=>a ≤ x.1∧x.2.1 ≤ m∧H'=aj H b (x.2.2.map f)∧nx=nxx∧PermR a (m + 1) L x.2.2) (fun x=>x.2.1) (a,m,L) ⟨aR _,aR _,kN hH,rfl,.refl⟩ ag0 ?_;rintro ⟨i,j,M⟩ H' nxx ⟨h1,h2,rfl,rfl,hp⟩;dsimp only at *;have hl:M.length=n:=by rw [hp.len,hn]
 by_cases hij:i < j
 ·obtain ⟨k,rfl⟩:∃ k,j=k + 1:=⟨j - 1,by omega⟩
  have tj:((k + 1:Nat):Int) - 1=(k:Int):=by omega
  have ti:((i:Nat):Int) + 1=((i + 1:Nat):Int):=by omega
  obtain ⟨M1,hl1,lm1,lm2⟩:=dl (f:=f) (M:=M) (i:=i) (j:=k + 1) (by omega) (by omega);have lm3:=lm2;simp only [bu,dh,fu,b6] at lm1 lm2;refine wnZ (zI6 @tj @ti @lm1 @lm2 hc.cells hc.one) ?_;exact ⟨(i + 1,k,swp M i (k + 1)),by dsimp only; omega,⟨by dsimp only; omega,by dsimp only; omega,by dsimp only; rw [aV,aV,lm3],rfl,hp.trans (PermR.swap (by omega) (by omega) (by omega))⟩,ag0⟩
 ·refine wnZ and_self ?_;exact ⟨rfl,M,rfl,hp⟩
theorem qi (hc:Cmp Tryz.prog f K G g caps) {L:List α} {H:Hp} {b c nx n i j s:Nat} (hH:H b=some (L.map f)) (hcc:H c=some [.int .i64 (s:Nat)]) (hn:L.length=n) (hG:∀ x ∈ L,G x) (hi:i < n) (hj:j < n) (hn2:n ≤ 1000000000) (hs:s ≤ 100) :
    Abs.Fn Tryz.prog 208 [.msl b n 1 0 n,.int .i64 i,.int .i64 j,.ptr c 1 0,.func g caps] H nx fun r H' nx'=>nx'=nx∧∃ i' j' s':Nat,r=.tup [.int .i64 i',.int .i64 j']∧((i'=i∧j'=j) ∨ (i'=j∧j'=i))∧s' ≤ s + 1∧H'=aj H c [.int .i64 s']:=by
 refine fO Fd ?_;simp only [FE,aJ];have dcap:=hc.dcaps;have lc:=hc.run (L.getD j default) (L.getD i default) (hG _ (bf (by omega))) (hG _ (bf (by omega)));have e1:=hc.dat (L.getD j default);have e2:=hc.dat (L.getD i default);have ts:((s:Nat):Int) + 1=((s + 1:Nat):Int):=by omega
 have ls:∀ x y:AV,bu [x] 0 [y]=[y]:=fun _ _=>rfl;simp only [bu,dh,fu,b6] at ls;generalize hKK:K (L.getD j default) (L.getD i default)=kk at lc;by_cases hlt:kk < 0
 ·have zz:=aI @hH (aI @hcc (aI @cm (aI hc.cells (aI hc.one (aI @ts (aI @ls @SV3)))))); repeat' (first|refine zW ?_|refine zM ?_|apply a_n|apply a_r|refine zO ?_|refine vZ ?_|refine cZ ?_ (hp:=lc) (hs:=by (first | refine aH ?_ rfl | apply aW); (repeat' (first | exact ao | apply br | apply aY | exact e1 | exact e2 | exact a7 dcap)); first | done | fail)|refine stZ ?_|(refine zGZ ?_ ?_ <;> (intro _hg; try (exfalso; omega)))|refine b4 rfl ?_|refine r2Z ?_|fail)
  exact ⟨rfl,j,i,s + 1,rfl,.inr ⟨rfl,rfl⟩,aR _,rfl⟩
 ·have zz:=aI @hH (aI @hcc (aI @cm (aI hc.cells hc.one))); repeat' (first|refine zW ?_|refine zM ?_|apply a_n|refine zO ?_|refine vZ ?_|refine cZ ?_ (hp:=lc) (hs:=by (first | refine aH ?_ rfl | apply aW); (repeat' (first | exact ao | apply br | apply aY | exact e1 | exact e2 | exact a7 dcap)); first | done | fail)|(refine zGZ ?_ ?_ <;> (intro _hg; try (exfalso; omega)))|refine b4 rfl ?_|refine r2Z ?_|fail)
  exact ⟨rfl,i,j,s,rfl,.inl ⟨rfl,rfl⟩,Nat.le_succ _,kN hcc⟩
end
end Go.Proofs.YtekdaafnjdlenaaGreat
namespace Go.Proofs.YtekdaafnjdlenaaGreat
open Go Go.Abs
section
variable {α:Type} [Inhabited α] {f:α→AV} {K:α→α→Int} {G:α→Prop} {g:Nat} {caps:List AV}
attribute [local irreducible] aA ag a8 aQ aK aL ar aN aU bd Go.Abs.Fn aP Go.Abs.Pure an aG Yl
theorem p7 (hc:Cmp Tryz.prog f K G g caps) {L:List α} {H:Hp} {b c nx n i j k s lo hi:Nat} (hH:H b=some (L.map f)) (hbc:b ≠ c) (hcc:H c=some [.int .i64 (s:Nat)]) (hn:L.length=n) (hG:∀ x ∈ L,G x) (hi1:lo ≤ i∧i < hi) (hj1:lo ≤ j∧j < hi) (hk1:lo ≤ k∧k < hi) (hhi:hi ≤ n) (hn2:n ≤ 1000000000) (hs:s ≤ 50) :
    Abs.Fn Tryz.prog 201 [.msl b n 1 0 n,.int .i64 i,.int .i64 j,.int .i64 k,.ptr c 1 0,.func g caps] H nx fun r H' nx'=>nx'=nx∧∃ p s':Nat,r=.int .i64 p∧lo ≤ p∧p < hi∧s' ≤ s + 3∧H'=aj H c [.int .i64 s']:=by
 refine fO GC ?_;simp only [Fy,aJ];refine wnZ and_self ?_;refine bg ev0 ev0 (qi hc (b:=b) hH hcc hn hG (i:=i) (j:=j) (by omega) (by omega) hn2 (by omega)) ?_;rintro _ _ _ ⟨rfl,i1,j1,s1,rfl,h1,hs1,rfl⟩;refine wnZ and_self ?_;refine bg ev0 ev0 (qi hc (b:=b) (by rw [ab hbc]; exact hH) af hn hG (i:=j1) (j:=k) (by omega) (by omega) hn2 (by omega)) ?_;rintro _ _ _ ⟨rfl,j2,k2,s2,rfl,h2,hs2,rfl⟩;refine wnZ and_self ?_;refine bg ev0 ev0 (qi hc (b:=b) (by rw [aV,ab hbc]; exact hH) af hn hG (i:=i1) (j:=j2) (by omega) (by omega) hn2 (by omega)) ?_;rintro _ _ _ ⟨rfl,i3,j3,s3,rfl,h3,hs3,rfl⟩;refine wnZ and_self ?_;exact ⟨rfl,j3,s3,rfl,by omega,by omega,by omega,by rw [aV,aV]⟩
theorem pP (hc:Cmp Tryz.prog f K G g caps) {L:List α} {H:Hp} {b c nx n i s lo hi:Nat} (hH:H b=some (L.map f)) (hbc:b ≠ c) (hcc:H c=some [.int .i64 (s:Nat)]) (hn:L.length=n) (hG:∀ x ∈ L,G x) (hi1:lo + 1 ≤ i∧i + 1 < hi) (hhi:hi ≤ n) (hn2:n ≤ 1000000000) (hs:s ≤ 50) :
    Abs.Fn Tryz.prog 200 [.msl b n 1 0 n,.int .i64 i,.ptr c 1 0,.func g caps] H nx fun r H' nx'=>nx'=nx∧∃ p s':Nat,r=.int .i64 p∧lo ≤ p∧p < hi∧s' ≤ s + 3∧H'=aj H c [.int .i64 s']:=by
 obtain ⟨m,rfl⟩:∃ m,i=m + 1:=⟨i - 1,by omega⟩
 have t1:((m + 1:Nat):Int) - 1=(m:Int):=by omega
 have t2:((m + 1:Nat):Int) + 1=((m + 1 + 1:Nat):Int):=by omega
 refine fO EU ?_;simp only [E8,aJ];refine wnZ (aI @t1 @t2) ?_;refine bg ev0 ev0 (p7 hc (b:=b) hH hbc hcc hn hG (i:=m) (j:=m + 1) (k:=m + 1 + 1) (lo:=lo) (hi:=hi) (by omega) (by omega) (by omega) hhi hn2 hs) ?_;rintro _ _ _ ⟨rfl,p,s1,rfl,h1,h2,hs1,rfl⟩;refine wnZ and_self ?_;exact ⟨rfl,p,s1,rfl,h1,h2,hs1,rfl⟩
theorem AP (hc:Cmp Tryz.prog f K G g caps) {L:List α} {H:Hp} {b nx n a e:Nat} (hH:H b=some (L.map f)) (hbx:b < nx) (hn:L.length=n) (hG:∀ x ∈ L,G x) (hae:a + 8 ≤ e) (hen:e ≤ n) (hn2:n ≤ 1000000000) :
    Abs.Fn Tryz.prog 169 [.msl b n 1 0 n,.int .i64 a,.int .i64 e,.func g caps] H nx fun r H' nx'=>nx'=nx + 1∧∃ (p:Nat) (hint:Int) (v:List AV),r=.tup [.int .i64 p,.int .i64 hint]∧a ≤ p∧p < e∧H'=aj H nx v:=by
 obtain ⟨l,rfl⟩:∃ l,e=a + l:=⟨e - a,by omega⟩
 have te:((a + l:Nat):Int) - (a:Int)=(l:Int):=by omega
 obtain ⟨q,hq⟩:∃ q,l / 4=q:=⟨_,rfl⟩
 have tq:bc .quo false false (.int .i64 (l:Int)) (.int .i64 4)=some (.int .i64 (q:Int)):=by
  rw [oV (by omega) (by omega) (by omega)]
  congr 2
  omega
 have w1:(a:Int) + (q:Int) * 1=((a + q:Nat):Int):=by omega
 have w2:(a:Int) + (q:Int) * 2=((a + q * 2:Nat):Int):=by omega
 have w3:(a:Int) + (q:Int) * 3=((a + q * 3:Nat):Int):=by omega
 have hbn:b ≠ nx:=by omega
 refine fO FP ?_;simp only [Fv,aJ];have last:∀ (s:Nat) (H1:Hp),H1=aj (aj H nx [.int .i64 0]) nx [.int .i64 s]→H1 nx=some [.int .i64 (s:Nat)]:=fun s H1 h=>by rw [h]; exact af
 have hHn:∀ v,aj H nx v b=some (L.map f):=fun v=>by rw [ab hbn]; exact hH
 by_cases h50:50 ≤ l
 ·refine wnZ (zI5 @te @tq @w1 @w2 @w3) ?_;refine bg ev0 ev0 (pP hc (b:=b) (c:=nx) (s:=0) (i:=a + q) (lo:=a) (hi:=a + l) (hHn _) hbn af hn hG (by omega) (by omega) hn2 (by omega)) ?_;rintro _ _ _ ⟨rfl,p1,s1,rfl,k1,k2,hs1,rfl⟩;rw [aV];refine wnZ and_self ?_;refine bg ev0 ev0 (pP hc (b:=b) (c:=nx) (s:=s1) (i:=a + q * 2) (lo:=a) (hi:=a + l) (hHn _) hbn af hn hG (by omega) (by omega) hn2 (by omega)) ?_;rintro _ _ _ ⟨rfl,p2,s2,rfl,k3,k4,hs2,rfl⟩;rw [aV];refine wnZ and_self ?_;refine bg ev0 ev0 (pP hc (b:=b) (c:=nx) (s:=s2) (i:=a + q * 3) (lo:=a) (hi:=a + l) (hHn _) hbn af hn hG (by omega) (by omega) hn2 (by omega)) ?_;rintro _ _ _ ⟨rfl,p3,s3,rfl,k5,k6,hs3,rfl⟩;rw [aV];refine wnZ and_self ?_;refine bg ev0 ev0 (p7 hc (b:=b) (c:=nx) (s:=s3) (i:=p1) (j:=p2) (k:=p3) (lo:=a) (hi:=a + l) (hHn _) hbn af hn hG (by omega) (by omega) (by omega) (by omega) hn2 (by omega)) ?_;rintro _ _ _ ⟨rfl,p4,s4,rfl,k7,k8,hs4,rfl⟩;rw [aV]
  repeat' (first|refine zW ?_|apply a_n|refine zO ?_|refine vZ ?_|(refine zGZ ?_ ?_ <;> (intro _hg; try (exfalso; omega)))|refine b4 rfl ?_|refine r2Z ?_|fail)
  all_goals exact ⟨rfl,p4,_,_,rfl,by omega,by omega,rfl⟩
 ·refine wnZ (zI5 @te @tq @w1 @w2 @w3) ?_;refine bg ev0 ev0 (p7 hc (b:=b) (c:=nx) (s:=0) (i:=a + q) (j:=a + q * 2) (k:=a + q * 3) (lo:=a) (hi:=a + l) (hHn _) hbn af hn hG (by omega) (by omega) (by omega) (by omega) hn2 (by omega)) ?_;rintro _ _ _ ⟨rfl,p4,s4,rfl,k7,k8,hs4,rfl⟩;rw [aV]
  repeat' (first|refine zW ?_|apply a_n|refine zO ?_|refine vZ ?_|(refine zGZ ?_ ?_ <;> (intro _hg; try (exfalso; omega)))|refine b4 rfl ?_|refine r2Z ?_|fail)
  all_goals exact ⟨rfl,p4,_,_,rfl,by omega,by omega,rfl⟩
end
end Go.Proofs.YtekdaafnjdlenaaGreat
namespace Go.Proofs.YtekdaafnjdlenaaGreat
open Go Go.Abs
def rn {α:Type} [Inhabited α] (K:α→α→Int) (a e:Nat) (M:List α):Prop:=∀ q,0 < a→a ≤ q→q < e→¬ K (M.getD q default) (M.getD (a - 1) default) < 0
section
variable {α:Type} [Inhabited α] {f:α→AV} {K:α→α→Int} {G:α→Prop} {g:Nat} {caps:List AV}
theorem rn.perm {a e:Nat} {L M:List α} (h:rn K a e L) (hp:PermR a e L M) (hae:a ≤ e) (he:e ≤ L.length):rn K a e M:=fun q h0 h1 h2=>by
 rw [hp.out (a - 1) (.inl (by omega))];exact hp.all (p:=fun x=>¬ K x (L.getD (a - 1) default) < 0) hae he (fun i k1 k2=>h i h0 k1 k2) q h1 h2
theorem bi.out {a i e:Nat} {L M:List α} (h:bi K a i L) (hp:PermR i e L M):bi K a i M:=fun p q h1 h2 h3=>by
 rw [hp.out p (.inl (by omega)),hp.out q (.inl h3)]; exact h p q h1 h2 h3
theorem bi.snoc {a i:Nat} {M:List α} (hK:Ord K) (h:bi K a i M) (ha:a < i) (hn:¬ K (M.getD i default) (M.getD (i - 1) default) < 0):bi K a (i + 1) M:=fun p q h1 h2 h3=>by
 by_cases e:q=i
 ·subst e;by_cases e2:p=q - 1
  ·rw [e2]; exact hn
  ·exact hK.negtr _ _ _ (h p (q - 1) h1 (by omega) (by omega)) hn
 ·exact h p q h1 h2 (by omega)
attribute [local irreducible] aA ag a8 aQ aK aL ar aN aU bd Go.Abs.Fn aP Go.Abs.Pure an aG Yl
theorem zJ (hc:Cmp Tryz.prog f K G g caps) {L:List α} {H:Hp} {b nx n a e:Nat} (hH:H b=some (L.map f)) (hn:L.length=n) (hG:∀ x ∈ L,G x) (hae:a < e) (hen:e ≤ n) (hn2:n ≤ 1000000000) (hlow:rn K a e L) :
    Abs.Fn Tryz.prog 171 [.msl b n 1 0 n,.int .i64 a,.int .i64 e,.func g caps] H nx fun r H' nx'=>nx'=nx∧∃ L' t,r=.bool t∧H'=aj H b (L'.map f)∧PermR a e L L'∧(t=true→bi K a e L'):=by
 have dcap:=hc.dcaps;refine fO Hk ?_;simp only [Gz,aJ];refine wnZ and_self ?_;refine bR (X:=Nat × Nat × List α) (fun x=>[(0,.msl b n 1 0 n),(1,.int .i64 a),(2,.int .i64 e),(3,.func g caps),(9,.int .i64 (x.2.1:Nat)),(10,.int .i64 (x.1:Nat))]) (fun x H' nxx=>x.1 ≤ 5∧a + 1 ≤ x.2.1∧x.2.1 ≤ e∧H'=aj H b (x.2.2.map f)∧nx=nxx∧PermR a e L x.2.2∧bi K a x.2.1 x.2.2) (fun x=>5 - x.1) (0,a + 1,L) ⟨by dsimp only; omega,aR _,hae,kN hH,rfl,.refl,bi.one (aR _)⟩ ag0 ?_;rintro ⟨jj,i0,M0⟩ H' nxx ⟨h1,h2,h3,rfl,rfl,hp0,hs0⟩;dsimp only at *;by_cases h5:jj=5
 ·subst h5;refine wnZ and_self ?_;exact ⟨rfl,M0,false,rfl,rfl,hp0,fun h=>absurd h (by decide)⟩
 have hl:M0.length=n:=by rw [hp0.len,hn]
 have hGM:=hp0.mem hG;refine b7 (fun T H'' nx''=>T 0=.msl b n 1 0 n∧T 1=.int .i64 a∧T 2=.int .i64 e∧T 3=.func g caps∧T 9=.int .i64 (i0:Nat)∧T 10=.int .i64 (jj:Nat)∧H''=aj H b ((M0).map f)∧nx=nx'') ?_ ?_
 ·refine wnZ and_self ?_;exact ⟨rfl,rfl,rfl,rfl,rfl,rfl,rfl,rfl⟩
 rintro T _ _ ⟨t0,t1,t2,t3,t9,t10,rfl,rfl⟩;refine b7 (fun T H'' nx''=>∃ (i:Nat) (M:List α),a + 1 ≤ i∧i ≤ e∧PermR a e L M∧bi K a i M∧T 0=.msl b n 1 0 n∧T 1=.int .i64 a∧T 2=.int .i64 e∧T 3=.func g caps∧T 9=.int .i64 (i:Nat)∧T 10=.int .i64 (jj:Nat)∧H''=aj H b ((M).map f)∧nx=nx'') ?_ ?_
 rotate_left
 ·clear t0 t1 t2 t3 t9 t10;rintro T _ _ ⟨i,M,k1,k2,hp,hs,t0,t1,t2,t3,t9,t10,rfl,rfl⟩;refine wnZ (zI6 @t0 @t1 @t2 @t3 @t9 @t10) ?_;exact ⟨(jj + 1,i,M),by dsimp only; omega,⟨by dsimp only; omega,k1,k2,rfl,rfl,hp,hs⟩,(have zz:=aI @t0 (aI @t1 (aI @t2 (aI @t3 (aI @t9 @t10)))); agZ)⟩
 refine jh ?_;refine b7 (fun T H'' nx''=>∃ (i:Nat),a + 1 ≤ i∧i ≤ e∧bi K a i M0∧(i < e→K (M0.getD i default) (M0.getD (i - 1) default) < 0)∧T 0=.msl b n 1 0 n∧T 1=.int .i64 a∧T 2=.int .i64 e∧T 3=.func g caps∧T 9=.int .i64 (i:Nat)∧T 10=.int .i64 (jj:Nat)∧H''=aj H b ((M0).map f)∧nx=nx'') ?_ ?_
 ·refine wnZ (zI6 @t0 @t1 @t2 @t3 @t9 @t10) ?_;refine bR (X:=Nat) (fun i=>[(0,.msl b n 1 0 n),(1,.int .i64 a),(2,.int .i64 e),(3,.func g caps),(9,.int .i64 (i:Nat)),(10,.int .i64 (jj:Nat))]) (fun i H' nxx=>a + 1 ≤ i∧i ≤ e∧H'=aj H b (M0.map f)∧nx=nxx∧bi K a i M0) (fun i=>e - i) i0 ⟨h2,h3,rfl,rfl,hs0⟩ (have zz:=aI @t0 (aI @t1 (aI @t2 (aI @t3 (aI @t9 @t10)))); agZ) ?_;clear hs0 h2 h3;rintro i H' nxx ⟨h2,h3,rfl,rfl,hs⟩;by_cases hie:i=e
  ·subst hie;refine wkZ and_self ?_;exact ⟨i,h2,h3,hs,fun h=>absurd h (Nat.lt_irrefl _),rfl,rfl,rfl,rfl,rfl,rfl,rfl,rfl⟩
  obtain ⟨m,rfl⟩:∃ m,i=m + 1:=⟨i - 1,by omega⟩
  have tj:((m + 1:Nat):Int) - 1=(m:Int):=by omega
  have lc:=hc.run (M0.getD (m + 1) default) (M0.getD m default) (hGM _ (bf (by omega))) (hGM _ (bf (by omega)));have e1:=hc.dat (M0.getD (m + 1) default);have e2:=hc.dat (M0.getD m default);generalize hKK:K (M0.getD (m + 1) default) (M0.getD m default)=kk at lc;by_cases hlt:kk < 0
  ·have zz:=aI @tj (aI @cm (aI hc.cells hc.one)); repeat' (first|refine zW ?_|refine zM ?_|apply a_n|apply a_x|refine zO ?_|refine vZ ?_|refine cZ ?_ (hp:=lc) (hs:=by (first | refine aH ?_ rfl | apply aW); (repeat' (first | exact ao | apply br | apply aY | exact e1 | exact e2 | exact a7 dcap)); first | done | fail)|refine gTZ ?_|(refine zGZ ?_ ?_ <;> (intro _hg; try (exfalso; omega)))|fail)
   exact ⟨m + 1,h2,h3,hs,fun _=>by rw [rc,hKK]; exact hlt,rfl,rfl,rfl,rfl,rfl,rfl,rfl,rfl⟩
  ·have zz:=aI @tj (aI @cm (aI hc.cells hc.one)); repeat' (first|refine zW ?_|refine zM ?_|apply a_n|refine zO ?_|refine vZ ?_|refine cZ ?_ (hp:=lc) (hs:=by (first | refine aH ?_ rfl | apply aW); (repeat' (first | exact ao | apply br | apply aY | exact e1 | exact e2 | exact a7 dcap)); first | done | fail)|refine gTZ ?_|(refine zGZ ?_ ?_ <;> (intro _hg; try (exfalso; omega)))|fail)
   exact ⟨m + 1 + 1,by omega,⟨by omega,by omega,rfl,rfl,hs.snoc hc.ord (by omega) (by rw [rc,hKK]; exact hlt)⟩,ag0⟩
 clear t0 t1 t2 t3 t9 t10 hs0 h2 h3;rintro T _ _ ⟨i,h2,h3,hs,hless,t0,t1,t2,t3,t9,t10,rfl,rfl⟩;by_cases hie:i=e
 ·subst hie;have ten:decide ((i:Int)=(i:Int))=true:=aX rfl;refine wnZ (zI7 @t0 @t1 @t2 @t3 @t9 @t10 @ten) ?_;exact ⟨rfl,M0,true,rfl,rfl,hp0,fun _=>hs⟩
 replace hless:=hless (by omega);have ten:decide ((i:Int)=(e:Int))=false:=aS (by omega);refine b7 (fun T H'' nx''=>T 0=.msl b n 1 0 n∧T 1=.int .i64 a∧T 2=.int .i64 e∧T 3=.func g caps∧T 9=.int .i64 (i:Nat)∧T 10=.int .i64 (jj:Nat)∧H''=aj H b ((M0).map f)∧nx=nx'') ?_ ?_
 ·refine wnZ (zI7 @t0 @t1 @t2 @t3 @t9 @t10 @ten) ?_;exact ⟨(have zz:=@t0; evZ),(have zz:=@t1; evZ),(have zz:=@t2; evZ),(have zz:=@t3; evZ),(have zz:=@t9; evZ),(have zz:=@t10; evZ),rfl,rfl⟩
 clear t0 t1 t2 t3 t9 t10 ten;rintro T _ _ ⟨t0,t1,t2,t3,t9,t10,rfl,rfl⟩;refine b7 (fun T H'' nx''=>T 0=.msl b n 1 0 n∧T 1=.int .i64 a∧T 2=.int .i64 e∧T 3=.func g caps∧T 9=.int .i64 (i:Nat)∧T 10=.int .i64 (jj:Nat)∧H''=aj H b ((M0).map f)∧nx=nx'') ?_ ?_
 ·have zz:=aI @t0 (aI @t1 (aI @t2 (aI @t3 (aI @t9 @t10)))); repeat' (first|refine zW ?_|apply a_n|apply a_r|refine zO ?_|refine vZ ?_|(refine zGZ ?_ ?_ <;> (intro _hg; try (exfalso; omega)))|refine b4 rfl ?_|refine r1Z ?_|fail)
  ·exact ⟨rfl,M0,false,rfl,rfl,hp0,fun h=>absurd h (by decide)⟩
  ·exact ⟨(have zz:=@t0; evZ),(have zz:=@t1; evZ),(have zz:=@t2; evZ),(have zz:=@t3; evZ),(have zz:=@t9; evZ),(have zz:=@t10; evZ),rfl,rfl⟩
 clear t0 t1 t2 t3 t9 t10;rintro T _ _ ⟨t0,t1,t2,t3,t9,t10,rfl,rfl⟩;obtain ⟨m,rfl⟩:∃ m,i=m + 1:=⟨i - 1,by omega⟩
 have tj:((m + 1:Nat):Int) - 1=(m:Int):=by omega
 rw [rc] at hless;obtain ⟨M1,hl1,lm1,lm2⟩:=dl (f:=f) (M:=M0) (i:=m + 1) (j:=m) (by omega) (by omega);have lm3:=lm2;simp only [bu,dh,fu,b6] at lm1 lm2;refine b7 (fun T H'' nx''=>T 0=.msl b n 1 0 n∧T 1=.int .i64 a∧T 2=.int .i64 e∧T 3=.func g caps∧T 9=.int .i64 (m + 1:Nat)∧T 10=.int .i64 (jj:Nat)∧H''=aj H b ((swp M0 (m + 1) m).map f)∧nx=nx'') ?_ ?_
 ·refine wnZ (aI @t0 (aI @t1 (jX @t2 @t3 @t9 @t10 @cm hc.cells hc.one @tj @lm1 @lm2))) ?_;exact ⟨(have zz:=@t0; evZ),(have zz:=@t1; evZ),(have zz:=@t2; evZ),(have zz:=@t3; evZ),(have zz:=@t9; evZ),(have zz:=@t10; evZ),by rw [aV,aV,lm3],rfl⟩
 clear t0 t1 t2 t3 t9 t10;have hp1:PermR a e L (swp M0 (m + 1) m):=hp0.trans (PermR.swap (by omega) (by omega) (by omega));have hal:=(fI.start hs).step hc.ord (by omega) (aR _) (by omega) hless;clear hs hless lm1 lm2 lm3 hl1 M1;generalize swp M0 (m + 1) m=M2 at hp1 hal;clear hp0 hGM hl;rintro T _ _ ⟨t0,t1,t2,t3,t9,t10,rfl,rfl⟩;refine b7 (fun T H'' nx''=>∃ M:List α,PermR a e L M∧bi K a (m + 1) M∧T 0=.msl b n 1 0 n∧T 1=.int .i64 a∧T 2=.int .i64 e∧T 3=.func g caps∧T 9=.int .i64 (m + 1:Nat)∧T 10=.int .i64 (jj:Nat)∧H''=aj H b ((M).map f)∧nx=nx'') ?_ ?_
 ·by_cases h2a:m=a
  ·subst h2a;have td:decide ((2:Int) ≤ ((m + 1:Nat):Int) - (m:Int))=false:=aS (by omega);refine wnZ (zI7 @t0 @t1 @t2 @t3 @t9 @t10 @td) ?_;exact ⟨M2,hp1,(hal.done hc.ord (.inl rfl)).mono (aR _) (by omega),(have zz:=@t0; evZ),(have zz:=@t1; evZ),(have zz:=@t2; evZ),(have zz:=@t3; evZ),(have zz:=@t9; evZ),(have zz:=@t10; evZ),rfl,rfl⟩
  have td:decide ((2:Int) ≤ ((m + 1:Nat):Int) - (a:Int))=true:=aX (by omega);refine wnZ (zI8 @t0 @t1 @t2 @t3 @t9 @t10 @td @tj) ?_;refine bR (X:=Nat × List α) (fun x=>[(0,.msl b n 1 0 n),(1,.int .i64 a),(2,.int .i64 e),(3,.func g caps),(9,.int .i64 (m + 1:Nat)),(10,.int .i64 (jj:Nat)),(11,.int .i64 (x.1:Nat))]) (fun x H' nxx=>a ≤ x.1∧x.1 ≤ m∧H'=aj H b (x.2.map f)∧nx=nxx∧PermR a e L x.2∧fI K a (m + 1) x.1 x.2) (fun x=>x.1) (m,M2) ⟨by dsimp only; omega,aR _,rfl,rfl,hp1,hal⟩ (have zz:=aI @t0 (aI @t1 (aI @t2 (aI @t3 (aI @t9 @t10)))); agZ) ?_;clear t0 t1 t2 t3 t9 t10 hp1 hal M2;rintro ⟨j,M⟩ H' nxx ⟨a1,a2,rfl,rfl,hp,hal⟩;dsimp only at *;have hl:M.length=n:=by rw [hp.len,hn]
  have hGM:=hp.mem hG;rcases we j with ej | ej
  ·subst ej;refine wnZ and_self ?_;exact ⟨M,hp,(hal.done hc.ord (.inl (by omega))).mono (aR _) (by omega),rfl,rfl,rfl,rfl,rfl,rfl,rfl,rfl⟩
  obtain ⟨k,rfl⟩:∃ k,j=k + 1:=⟨j - 1,by omega⟩
  have tk:((k + 1:Nat):Int) - 1=(k:Int):=by omega
  have lc:=hc.run (M.getD (k + 1) default) (M.getD k default) (hGM _ (bf (by omega))) (hGM _ (bf (by omega)));have e1:=hc.dat (M.getD (k + 1) default);have e2:=hc.dat (M.getD k default);have hlw:=hlow.perm hp (by omega) (by omega);generalize hKK:K (M.getD (k + 1) default) (M.getD k default)=kk at lc;by_cases hlt:kk < 0
  ·have hak:k + 1 ≠ a:=fun h=>by
     subst h;have:=hlw (k + 1) (by omega) (aR _) (by omega);rw [rc,hKK] at this;exact this hlt
   obtain ⟨M1,hl1,lm1,lm2⟩:=dl (f:=f) (M:=M) (i:=k + 1) (j:=k) (by omega) (by omega);have lm3:=lm2;simp only [bu,dh,fu,b6] at lm1 lm2;have zz:=aI @tk (aI @cm (aI hc.cells (aI hc.one (aI @lm1 @lm2)))); repeat' (first|refine zW ?_|refine zM ?_|apply a_n|refine zO ?_|refine vZ ?_|refine cZ ?_ (hp:=lc) (hs:=by (first | refine aH ?_ rfl | apply aW); (repeat' (first | exact ao | apply br | apply aY | exact e1 | exact e2 | exact a7 dcap)); first | done | fail)|refine stZ ?_|(refine zGZ ?_ ?_ <;> (intro _hg; try (exfalso; omega)))|fail)
   exact ⟨(k,swp M (k + 1) k),by dsimp only; omega,⟨by dsimp only; omega,by dsimp only; omega,by dsimp only; rw [aV,aV,lm3],rfl,hp.trans (PermR.swap (by omega) (by omega) (by omega)),hal.step hc.ord (by omega) (by omega) (by omega) (by rw [hKK]; exact hlt)⟩,(have zz:=@tk; agZ)⟩
  ·have hd:k + 1=a ∨ (a < k + 1∧¬ K (M.getD (k + 1) default) (M.getD (k + 1 - 1) default) < 0):=by
     by_cases h:k + 1=a
     ·exact .inl h
     ·exact .inr ⟨by omega,by rw [rc,hKK]; exact hlt⟩
   have zz:=aI @tk (aI @cm (aI hc.cells hc.one)); repeat' (first|refine zW ?_|refine zM ?_|apply a_n|apply a_x|refine zO ?_|refine vZ ?_|refine cZ ?_ (hp:=lc) (hs:=by (first | refine aH ?_ rfl | apply aW); (repeat' (first | exact ao | apply br | apply aY | exact e1 | exact e2 | exact a7 dcap)); first | done | fail)|(refine zGZ ?_ ?_ <;> (intro _hg; try (exfalso; omega)))|fail)
   exact ⟨M,hp,(hal.done hc.ord hd).mono (aR _) (by omega),rfl,rfl,rfl,rfl,rfl,rfl,rfl,rfl⟩
 clear t0 t1 t2 t3 t9 t10 hp1 hal M2;rintro T _ _ ⟨M2,hp1,hs,t0,t1,t2,t3,t9,t10,rfl,rfl⟩;by_cases h2a:m + 1 + 2 ≤ e
 rotate_left
 ·have td:decide ((2:Int) ≤ (e:Int) - ((m + 1:Nat):Int))=false:=aS (by omega);refine wnZ (zI7 @t0 @t1 @t2 @t3 @t9 @t10 @td) ?_;exact ⟨m + 1,M2,h2,h3,hp1,hs,(have zz:=@t0; evZ),(have zz:=@t1; evZ),(have zz:=@t2; evZ),(have zz:=@t3; evZ),(have zz:=@t9; evZ),(have zz:=@t10; evZ),rfl,rfl⟩
 have td:decide ((2:Int) ≤ (e:Int) - ((m + 1:Nat):Int))=true:=aX (by omega);have tj2:((m + 1:Nat):Int) + 1=((m + 1 + 1:Nat):Int):=by omega
 refine wnZ (zI8 @t0 @t1 @t2 @t3 @t9 @t10 @td @tj2) ?_;refine bR (X:=Nat × List α) (fun x=>[(0,.msl b n 1 0 n),(1,.int .i64 a),(2,.int .i64 e),(3,.func g caps),(9,.int .i64 (m + 1:Nat)),(10,.int .i64 (jj:Nat)),(12,.int .i64 (x.1:Nat))]) (fun x H' nxx=>m + 1 + 1 ≤ x.1∧x.1 ≤ e∧H'=aj H b (x.2.map f)∧nx=nxx∧PermR a e L x.2∧bi K a (m + 1) x.2) (fun x=>e - x.1) (m + 1 + 1,M2) ⟨aR _,by dsimp only; omega,rfl,rfl,hp1,hs⟩ (have zz:=aI @t0 (aI @t1 (aI @t2 (aI @t3 (aI @t9 @t10)))); agZ) ?_;clear t0 t1 t2 t3 t9 t10 hp1 hs M2;rintro ⟨j,M⟩ H' nxx ⟨a1,a2,rfl,rfl,hp,hs⟩;dsimp only at *;have hl:M.length=n:=by rw [hp.len,hn]
 have hGM:=hp.mem hG;by_cases hje:j=e
 ·subst hje;refine wnZ and_self ?_;exact ⟨m + 1,M,h2,h3,hp,hs,rfl,rfl,rfl,rfl,rfl,rfl,rfl,rfl⟩
 obtain ⟨k,rfl⟩:∃ k,j=k + 1:=⟨j - 1,by omega⟩
 have tk:((k + 1:Nat):Int) - 1=(k:Int):=by omega
 have lc:=hc.run (M.getD (k + 1) default) (M.getD k default) (hGM _ (bf (by omega))) (hGM _ (bf (by omega)));have e1:=hc.dat (M.getD (k + 1) default);have e2:=hc.dat (M.getD k default);generalize hKK:K (M.getD (k + 1) default) (M.getD k default)=kk at lc;by_cases hlt:kk < 0
 ·obtain ⟨M1,hl1,lm1,lm2⟩:=dl (f:=f) (M:=M) (i:=k + 1) (j:=k) (by omega) (by omega);have lm3:=lm2;simp only [bu,dh,fu,b6] at lm1 lm2;have zz:=aI @tk (aI @cm (aI hc.cells (aI hc.one (aI @lm1 @lm2)))); repeat' (first|refine zW ?_|refine zM ?_|apply a_n|refine zO ?_|refine vZ ?_|refine cZ ?_ (hp:=lc) (hs:=by (first | refine aH ?_ rfl | apply aW); (repeat' (first | exact ao | apply br | apply aY | exact e1 | exact e2 | exact a7 dcap)); first | done | fail)|refine stZ ?_|(refine zGZ ?_ ?_ <;> (intro _hg; try (exfalso; omega)))|fail)
  exact ⟨(k + 1 + 1,swp M (k + 1) k),by dsimp only; omega,⟨by dsimp only; omega,by dsimp only; omega,by dsimp only; rw [aV,aV,lm3],rfl,hp.trans (PermR.swap (by omega) (by omega) (by omega)),hs.out (e:=e) (PermR.swap (by omega) (by omega) (by omega))⟩,ag0⟩
 ·have zz:=aI @tk (aI @cm (aI hc.cells hc.one)); repeat' (first|refine zW ?_|refine zM ?_|apply a_n|apply a_x|refine zO ?_|refine vZ ?_|refine cZ ?_ (hp:=lc) (hs:=by (first | refine aH ?_ rfl | apply aW); (repeat' (first | exact ao | apply br | apply aY | exact e1 | exact e2 | exact a7 dcap)); first | done | fail)|(refine zGZ ?_ ?_ <;> (intro _hg; try (exfalso; omega)))|fail)
  exact ⟨m + 1,M,h2,h3,hp,hs,rfl,rfl,rfl,rfl,rfl,rfl,rfl,rfl⟩
end
end Go.Proofs.YtekdaafnjdlenaaGreat
namespace Go.Proofs.YtekdaafnjdlenaaGreat
open Go Go.Abs
structure PartR {α:Type} [Inhabited α] (P:α→Prop) (a e mu i j:Nat) (M:List α):Prop where
 lo:a + 1 ≤ i
 mid:i ≤ j + 1
 hi:j < e
 mu:j + 1 - i ≤ mu
 up:∀ p,a + 1 ≤ p→p < i→P (M.getD p default)
 dn:∀ q,j < q→q < e→¬ P (M.getD q default)
section
variable {α:Type} [Inhabited α] {f:α→AV} {K:α→α→Int} {G:α→Prop} {g:Nat} {caps:List AV}
theorem PartR.start {P:α→Prop} {a m:Nat} {M:List α} (h:a ≤ m):PartR P a (m + 1) (m + 1 - (a + 1)) (a + 1) m M:=⟨aR _,by omega,by omega,aR _,fun p h1 h2=>by omega,fun q h1 h2=>by omega⟩
theorem PartR.stepUp {P:α→Prop} {a e mu i j:Nat} {M:List α} (h:PartR P a e mu i j M) (hij:i ≤ j) (hp:P (M.getD i default)):PartR P a e mu (i + 1) j M :=
 ⟨by have:=h.lo; omega,by omega,h.hi,by have:=h.mu; omega,fun p h1 h2=>by
  by_cases e:p=i
  ·rw [e]; exact hp
  ·exact h.up p h1 (by omega),h.dn⟩
theorem PartR.stepDn {P:α→Prop} {a e mu i k:Nat} {M:List α} (h:PartR P a e mu i (k + 1) M) (hij:i ≤ k + 1) (hp:¬ P (M.getD (k + 1) default)):PartR P a e mu i k M :=
 ⟨h.lo,hij,by have:=h.hi; omega,by have:=h.mu; omega,h.up,fun q h1 h2=>by
  by_cases e:q=k + 1
  ·rw [e]; exact hp
  ·exact h.dn q (by omega) h2⟩
theorem PartR.swap {P:α→Prop} {a e mu i k:Nat} {M:List α} (h:PartR P a e mu i (k + 1) M) (hM:e ≤ M.length) (hij:i ≤ k + 1) (hi:¬ P (M.getD i default)) (hj:P (M.getD (k + 1) default)):PartR P a e (k + 1 - (i + 1)) (i + 1) k (swp M i (k + 1))∧k + 1 - (i + 1) < mu:=by
 have hne:i ≠ k + 1:=fun e=>hi (by rw [e]; exact hj);have hh:=h.hi;have hlo:=h.lo;have hmu:=h.mu;refine ⟨⟨by omega,by omega,by omega,aR _,fun p h1 h2=>?_,fun q h1 h2=>?_⟩,by omega⟩
 ·rw [d3 (by omega) (by omega),if_neg (by omega)];by_cases e:p=i
  ·rw [if_pos e]; exact hj
  ·rw [if_neg e]; exact h.up p h1 (by omega)
 ·rw [d3 (by omega) (by omega)];by_cases e:q=k + 1
  ·rw [if_pos e]; exact hi
  ·rw [if_neg e,if_neg (by omega)]; exact h.dn q (by omega) h2
theorem qa {M:List α} {i j k:Nat} (hi:i < M.length) (hj:j < M.length) (h1:k ≠ i) (h2:k ≠ j):(swp M i j).getD k default=M.getD k default:=by
 rw [d3 hi hj,if_neg h2,if_neg h1]
attribute [local irreducible] aA ag a8 aQ aK aL ar aN aU bd Go.Abs.Fn aP Go.Abs.Pure an aG Yl
theorem PartR.done {P:α→Prop} {a e mu i j:Nat} {M:List α} {v:α} (hK:Ord K) (h:PartR P a e mu i j M) (hM:e ≤ M.length) (hji:j < i) (hv:M.getD a default=v) (hP:∀ x,P x ↔ K x v < 0):a ≤ j∧j < e∧(∀ p,a ≤ p→p < j→K ((swp M j a).getD p default) ((swp M j a).getD j default) < 0)∧(∀ q,j < q→q < e→¬ K ((swp M j a).getD q default) ((swp M j a).getD j default) < 0):=by
 have hlo:=h.lo; have hmid:=h.mid; have hhi:=h.hi
 have ej:(swp M j a).getD j default=v:=by
  rw [d3 (by omega) (by omega)];split
  ·rename_i e; rw [e,hv]
  ·rw [if_pos rfl,hv]
 rw [ej];refine ⟨by omega,by omega,fun p h1 h2=>?_,fun q h1 h2=>?_⟩
 ·rw [d3 (by omega) (by omega)];by_cases e:p=a
  ·rw [if_pos e]; exact (hP _).1 (h.up j (by omega) hji)
  ·rw [if_neg e,if_neg (by omega)]; exact (hP _).1 (h.up p (by omega) (by omega))
 ·rw [d3 (by omega) (by omega),if_neg (by omega),if_neg (by omega),← hP]; exact h.dn q h1 h2
theorem BS (hc:Cmp Tryz.prog f K G g caps) {L:List α} {H:Hp} {b nx n a e pv:Nat} (hH:H b=some (L.map f)) (hn:L.length=n) (hG:∀ x ∈ L,G x) (hae:a < e) (hen:e ≤ n) (hn2:n ≤ 1000000000) (hpv:a ≤ pv∧pv < e) :
    Abs.Fn Tryz.prog 172 [.msl b n 1 0 n,.int .i64 a,.int .i64 e,.int .i64 pv,.func g caps] H nx fun r H' nx'=>nx'=nx∧∃ (L':List α) (m:Nat),r=.int .i64 m∧a < m∧m ≤ e∧H'=aj H b (L'.map f)∧PermR a e L L'∧(∀ p,a ≤ p→p < m→¬ K (L.getD pv default) (L'.getD p default) < 0)∧(∀ q,m ≤ q→q < e→K (L.getD pv default) (L'.getD q default) < 0):=by
 have dcap:=hc.dcaps;obtain ⟨v,hv0⟩:∃ v,L.getD pv default=v:=⟨_,rfl⟩
 rw [hv0];obtain ⟨P,hP⟩:∃ P:α→Prop,∀ x,P x ↔ ¬ K v x < 0:=⟨_,fun _=>Iff.rfl⟩
 obtain ⟨N,hN⟩:∃ N,swp L a pv=N:=⟨_,rfl⟩
 have hp1:PermR a e L N:=hN ▸ PermR.swap (by omega) (by omega) (by omega)
 have hv1:N.getD a default=v:=by
  rw [← hN,d3 (by omega) (by omega),← hv0];split
  ·rename_i h; rw [h]
  ·rw [if_pos rfl]
 obtain ⟨M1,hl1,lm1,lm2⟩:=dl (f:=f) (M:=L) (i:=a) (j:=pv) (by omega) (by omega);rw [hN] at lm2;have lm3:=lm2;simp only [bu,dh,fu,b6] at lm1 lm2;obtain ⟨m,hm⟩:∃ m,e=m + 1:=⟨e - 1,by omega⟩
 have te:(e:Int) - 1=(m:Int):=by omega
 have ta:((a:Nat):Int) + 1=((a + 1:Nat):Int):=by omega
 refine fO Fp ?_;simp only [ER,aJ];have zz:=aI @hH (aI @te (aI @ta (aI @cm (aI hc.cells (aI hc.one (aI @lm1 @lm2)))))); repeat' (first|refine zW ?_|apply a_n|refine zO ?_|refine vZ ?_|refine stZ ?_|fail)
 refine bR (X:=Nat × Nat × List α) (fun x=>[(0,.msl b n 1 0 n),(1,.int .i64 a),(4,.func g caps),(11,.int .i64 (x.1:Nat)),(12,.int .i64 (x.2.1:Nat))]) (fun x H' nxx=>PartR P a e (x.2.1 + 1 - x.1) x.1 x.2.1 x.2.2∧H'=aj H b (x.2.2.map f)∧nx=nxx∧PermR a e L x.2.2∧x.2.2.getD a default=v) (fun x=>x.2.1 + 1 - x.1) (a + 1,m,N) ⟨by dsimp only; rw [hm]; exact .start (by omega),by dsimp only; rw [aV,lm3],rfl,hp1,hv1⟩ ag0 ?_;clear zz;clear lm1 lm2 lm3 hl1 M1 hp1 hv1 hN N te ta hm m;rintro ⟨i,j,M⟩ H' nxx ⟨hpt,rfl,rfl,hp,hv⟩;dsimp only at *;have hl:M.length=n:=by rw [hp.len,hn]
 have hGM:=hp.mem hG;generalize hmu:j + 1 - i=mu at hpt ⊢;clear hmu;obtain ⟨T,hT,t0,t1,t4,t11,t12⟩:∃ T,tl [(0,.msl b n 1 0 n),(1,.int .i64 a),(4,.func g caps),(11,.int .i64 (i:Nat)),(12,.int .i64 (j:Nat))]=T∧T 0=.msl b n 1 0 n∧T 1=.int .i64 a∧T 4=.func g caps∧T 11=.int .i64 (i:Nat)∧T 12=.int .i64 (j:Nat):=⟨_,rfl,rfl,rfl,rfl,rfl,rfl⟩
 rw [hT];clear hT;refine jh ?_;refine b7 (fun T H'' nx''=>∃ i:Nat,PartR P a e mu i j M∧(i ≤ j→¬ P (M.getD i default))∧T 0=.msl b n 1 0 n∧T 1=.int .i64 a∧T 4=.func g caps∧T 11=.int .i64 (i:Nat)∧T 12=.int .i64 (j:Nat)∧H''=aj H b ((M).map f)∧nx=nx'') ?_ ?_
 ·have zz:=aI @t0 (aI @t1 (aI @t4 (aI @t11 @t12))); repeat' (first|refine zW ?_|apply a_n|refine zO ?_|fail)
  refine bR (X:=Nat) (fun i=>[(0,.msl b n 1 0 n),(1,.int .i64 a),(4,.func g caps),(11,.int .i64 (i:Nat)),(12,.int .i64 (j:Nat))]) (fun i H' nxx=>PartR P a e mu i j M∧H'=aj H b (M.map f)∧nx=nxx) (fun i=>j + 1 - i) i ⟨hpt,rfl,rfl⟩ (have zz:=aI @t0 (aI @t1 (aI @t4 (aI @t11 @t12))); agZ) ?_;clear zz;clear t0 t1 t4 t11 t12 hpt i;rintro i H' nxx ⟨hpt,rfl,rfl⟩;have hlo:=hpt.lo; have hmid:=hpt.mid; have hhi:=hpt.hi;have ii:((i:Nat):Int) + 1=((i + 1:Nat):Int):=by omega
  by_cases hij:j < i
  ·repeat' (first|refine zW ?_|refine zM ?_|apply a_n|apply a_x|refine zO ?_|refine vZ ?_|refine gFZ ?_|(refine zGZ ?_ ?_ <;> (intro _hg; try (exfalso; omega)))|refine cFZ ?_|fail)
   exact ⟨i,hpt,fun h=>absurd h (by omega),rfl,rfl,rfl,rfl,rfl,rfl,rfl⟩
  have lc:=hc.run (M.getD (a) default) (M.getD (i) default) (hGM _ (bf (by omega))) (hGM _ (bf (by omega)));have e1:=hc.dat (M.getD (a) default);have e2:=hc.dat (M.getD (i) default);have hPk:P (M.getD (i) default) ↔ ¬ K (M.getD (a) default) (M.getD (i) default) < 0:=by rw [hP,hv]
  generalize hKK:K (M.getD (a) default) (M.getD (i) default)=kk at lc hPk;by_cases hlt:kk < 0
  ·have zz:=aI @ii (aI @cm (aI hc.cells hc.one)); repeat' (first|refine zW ?_|refine zM ?_|apply a_n|apply a_x|refine zO ?_|refine vZ ?_|refine cZ ?_ (hp:=lc) (hs:=by (first | refine aH ?_ rfl | apply aW); (repeat' (first | exact ao | apply br | apply aY | exact e1 | exact e2 | exact a7 dcap)); first | done | fail)|refine gTZ ?_|(refine zGZ ?_ ?_ <;> (intro _hg; try (exfalso; omega)))|fail)
   exact ⟨i,hpt,fun _=>(by rw [hPk]; first | exact hlt | exact fun h=>h hlt),rfl,rfl,rfl,rfl,rfl,rfl,rfl⟩
  ·have zz:=aI @ii (aI @cm (aI hc.cells hc.one)); repeat' (first|refine zW ?_|refine zM ?_|apply a_n|refine zO ?_|refine vZ ?_|refine cZ ?_ (hp:=lc) (hs:=by (first | refine aH ?_ rfl | apply aW); (repeat' (first | exact ao | apply br | apply aY | exact e1 | exact e2 | exact a7 dcap)); first | done | fail)|refine gTZ ?_|(refine zGZ ?_ ?_ <;> (intro _hg; try (exfalso; omega)))|fail)
   exact ⟨i + 1,by omega,⟨hpt.stepUp (by omega) (by rw [hPk]; exact hlt),rfl,rfl⟩,ag0⟩
 clear t0 t1 t4 t11 t12 hpt i;rintro T _ _ ⟨i,hpt,hni,t0,t1,t4,t11,t12,rfl,rfl⟩;refine b7 (fun T H'' nx''=>∃ j:Nat,PartR P a e mu i j M∧(i ≤ j→¬ P (M.getD i default))∧(i ≤ j→P (M.getD j default))∧T 0=.msl b n 1 0 n∧T 1=.int .i64 a∧T 4=.func g caps∧T 11=.int .i64 (i:Nat)∧T 12=.int .i64 (j:Nat)∧H''=aj H b ((M).map f)∧nx=nx'') ?_ ?_
 ·have zz:=aI @t0 (aI @t1 (aI @t4 (aI @t11 @t12))); repeat' (first|refine zW ?_|apply a_n|refine zO ?_|fail)
  refine bR (X:=Nat) (fun j=>[(0,.msl b n 1 0 n),(1,.int .i64 a),(4,.func g caps),(11,.int .i64 (i:Nat)),(12,.int .i64 (j:Nat))]) (fun j H' nxx=>PartR P a e mu i j M∧(i ≤ j→¬ P (M.getD i default))∧H'=aj H b (M.map f)∧nx=nxx) (fun j=>j) j ⟨hpt,hni,rfl,rfl⟩ (have zz:=aI @t0 (aI @t1 (aI @t4 (aI @t11 @t12))); agZ) ?_;clear zz;clear t0 t1 t4 t11 t12 hpt hni j;rintro j H' nxx ⟨hpt,hni,rfl,rfl⟩;have hlo:=hpt.lo; have hmid:=hpt.mid; have hhi:=hpt.hi;by_cases hij:j < i
  ·repeat' (first|refine zW ?_|refine zM ?_|apply a_n|apply a_x|refine zO ?_|refine vZ ?_|refine gFZ ?_|(refine zGZ ?_ ?_ <;> (intro _hg; try (exfalso; omega)))|refine cFZ ?_|fail)
   exact ⟨j,hpt,hni,fun h=>absurd h (by omega),rfl,rfl,rfl,rfl,rfl,rfl,rfl⟩
  obtain ⟨k,rfl⟩:∃ k,j=k + 1:=⟨j - 1,by omega⟩
  have tk:((k + 1:Nat):Int) - 1=(k:Int):=by omega
  have lc:=hc.run (M.getD (a) default) (M.getD (k + 1) default) (hGM _ (bf (by omega))) (hGM _ (bf (by omega)));have e1:=hc.dat (M.getD (a) default);have e2:=hc.dat (M.getD (k + 1) default);have hPk:P (M.getD (k + 1) default) ↔ ¬ K (M.getD (a) default) (M.getD (k + 1) default) < 0:=by rw [hP,hv]
  generalize hKK:K (M.getD (a) default) (M.getD (k + 1) default)=kk at lc hPk;by_cases hlt:kk < 0
  ·have zz:=aI @tk (aI @cm (aI hc.cells hc.one)); repeat' (first|refine zW ?_|refine zM ?_|apply a_n|refine zO ?_|refine vZ ?_|refine cZ ?_ (hp:=lc) (hs:=by (first | refine aH ?_ rfl | apply aW); (repeat' (first | exact ao | apply br | apply aY | exact e1 | exact e2 | exact a7 dcap)); first | done | fail)|refine gTZ ?_|(refine zGZ ?_ ?_ <;> (intro _hg; try (exfalso; omega)))|fail)
   exact ⟨k,by omega,⟨hpt.stepDn (by omega) (by rw [hPk]; first | exact hlt | exact fun h=>h hlt),fun _=>hni (by omega),rfl,rfl⟩,ag0⟩
  ·have zz:=aI @tk (aI @cm (aI hc.cells hc.one)); repeat' (first|refine zW ?_|refine zM ?_|apply a_n|apply a_x|refine zO ?_|refine vZ ?_|refine cZ ?_ (hp:=lc) (hs:=by (first | refine aH ?_ rfl | apply aW); (repeat' (first | exact ao | apply br | apply aY | exact e1 | exact e2 | exact a7 dcap)); first | done | fail)|refine gTZ ?_|(refine zGZ ?_ ?_ <;> (intro _hg; try (exfalso; omega)))|fail)
   exact ⟨k + 1,hpt,hni,fun _=>(by rw [hPk]; exact hlt),rfl,rfl,rfl,rfl,rfl,rfl,rfl⟩
 clear t0 t1 t4 t11 t12 hpt hni j;rintro T _ _ ⟨j,hpt,hni,hnj,t0,t1,t4,t11,t12,rfl,rfl⟩;have hlo:=hpt.lo; have hmid:=hpt.mid; have hhi:=hpt.hi;by_cases hji:j < i
 ·have zz:=aI @t0 (aI @t1 (aI @t4 (aI @t11 @t12))); repeat' (first|refine zW ?_|apply a_n|apply a_x|refine zO ?_|refine vZ ?_|(refine zGZ ?_ ?_ <;> (intro _hg; try (exfalso; omega)))|refine b4 rfl ?_|refine r1Z ?_|fail)
  refine ⟨rfl,M,i,rfl,by omega,by omega,rfl,hp,fun p h1 h2=>?_,fun q h1 h2=>by have:=hpt.dn q (by omega) h2; rw [hP] at this; exact wD this⟩;by_cases ep:p=a
  ·rw [ep,hv]; exact hc.ord.irr _
  ·exact (hP _).1 (hpt.up p (by omega) h2)
 obtain ⟨k,rfl⟩:∃ k,j=k + 1:=⟨j - 1,by omega⟩
 have tk:((k + 1:Nat):Int) - 1=(k:Int):=by omega
 have ii:((i:Nat):Int) + 1=((i + 1:Nat):Int):=by omega
 obtain ⟨M1,hl1,lm1,lm2⟩:=dl (f:=f) (M:=M) (i:=i) (j:=k + 1) (by omega) (by omega);have lm3:=lm2;simp only [bu,dh,fu,b6] at lm1 lm2;have zz:=aI @t0 (aI @t1 (aI @t4 (aI @t11 (aI @t12 (aI @tk (aI @ii (aI @cm (aI hc.cells (aI hc.one (aI @lm1 @lm2)))))))))); repeat' (first|refine zW ?_|apply a_n|refine zO ?_|refine vZ ?_|refine stZ ?_|(refine zGZ ?_ ?_ <;> (intro _hg; try (exfalso; omega)))|fail)
 obtain ⟨hq1,hq2⟩:=hpt.swap (by omega) (by omega) (hni (by omega)) (hnj (by omega));exact ⟨(i + 1,k,swp M i (k + 1)),hq2,⟨hq1,by dsimp only; rw [aV,aV,lm3],rfl,hp.trans (PermR.swap (by omega) (by omega) (by omega)),by dsimp only; rw [qa (by omega) (by omega) (by omega) (by omega)]; exact hv⟩,(have zz:=aI @t0 (aI @t1 (aI @t4 (aI @t11 @t12))); agZ)⟩
theorem Ek (hc:Cmp Tryz.prog f K G g caps) {L:List α} {H:Hp} {b nx n a e pv:Nat} (hH:H b=some (L.map f)) (hn:L.length=n) (hG:∀ x ∈ L,G x) (hae:a < e) (hen:e ≤ n) (hn2:n ≤ 1000000000) (hpv:a ≤ pv∧pv < e) :
    Abs.Fn Tryz.prog 173 [.msl b n 1 0 n,.int .i64 a,.int .i64 e,.int .i64 pv,.func g caps] H nx fun r H' nx'=>nx'=nx∧∃ (L':List α) (m:Nat) (t:Bool),r=.tup [.int .i64 m,.bool t]∧a ≤ m∧m < e∧H'=aj H b (L'.map f)∧PermR a e L L'∧(∀ p,a ≤ p→p < m→K (L'.getD p default) (L'.getD m default) < 0)∧(∀ q,m < q→q < e→¬ K (L'.getD q default) (L'.getD m default) < 0):=by
 have dcap:=hc.dcaps;obtain ⟨v,hv0⟩:∃ v,L.getD pv default=v:=⟨_,rfl⟩
 obtain ⟨P,hP⟩:∃ P:α→Prop,∀ x,P x ↔ K x v < 0:=⟨_,fun _=>Iff.rfl⟩
 obtain ⟨M,hN⟩:∃ N,swp L a pv=N:=⟨_,rfl⟩
 have hp:PermR a e L M:=hN ▸ PermR.swap (by omega) (by omega) (by omega)
 have hv:M.getD a default=v:=by
  rw [← hN,d3 (by omega) (by omega),← hv0];split
  ·rename_i h; rw [h]
  ·rw [if_pos rfl]
 obtain ⟨M1,hl1,lm1,lm2⟩:=dl (f:=f) (M:=L) (i:=a) (j:=pv) (by omega) (by omega);rw [hN] at lm2;have lm3:=lm2;simp only [bu,dh,fu,b6] at lm1 lm2;obtain ⟨m,hm⟩:∃ m,e=m + 1:=⟨e - 1,by omega⟩
 have te:(e:Int) - 1=(m:Int):=by omega
 have ta:((a:Nat):Int) + 1=((a + 1:Nat):Int):=by omega
 refine fO Hj ?_;simp only [EM,aJ];refine b7 (fun T H'' nx''=>T 0=.msl b n 1 0 n∧T 1=.int .i64 a∧T 2=.int .i64 e∧T 3=.int .i64 pv∧T 4=.func g caps∧H=H''∧nx=nx'') ?_ ?_
 ·repeat' (first|apply a_n|refine zO ?_|refine vZ ?_|fail)
  exact ⟨rfl,rfl,rfl,rfl,rfl,rfl,rfl⟩
 rintro T _ _ ⟨t0,t1,t2,t3,t4,rfl,rfl⟩;refine b7 (fun T H'' nx''=>T 0=.msl b n 1 0 n∧T 1=.int .i64 a∧T 2=.int .i64 e∧T 3=.int .i64 pv∧T 4=.func g caps∧H''=aj H b (M.map f)∧nx=nx'') ?_ ?_
 ·have zz:=aI @t0 (aI @t1 (aI @t2 (aI @t3 (aI @t4 (aI @hH (aI @cm (aI hc.cells (aI hc.one (aI @lm1 @lm2))))))))); repeat' (first|apply a_n|refine zO ?_|refine vZ ?_|refine stZ ?_|fail)
  exact ⟨(have zz:=@t0; evZ),(have zz:=@t1; evZ),(have zz:=@t2; evZ),(have zz:=@t3; evZ),(have zz:=@t4; evZ),by rw [aV,lm3],rfl⟩
 clear t0 t1 t2 t3 t4 lm1 lm2 lm3 hl1 M1 hN;rintro T _ _ ⟨t0,t1,t2,t3,t4,rfl,rfl⟩;refine b7 (fun T H'' nx''=>∃ mu i j:Nat,PartR P a e mu i j M∧T 0=.msl b n 1 0 n∧T 1=.int .i64 a∧T 4=.func g caps∧T 12=.int .i64 (i:Nat)∧T 13=.int .i64 (j:Nat)∧H''=aj H b ((M).map f)∧nx=nx'') ?_ ?_
 ·have zz:=aI @t0 (aI @t1 (aI @t2 (aI @t3 (aI @t4 (aI @ta @te))))); repeat' (first|apply a_n|refine zO ?_|refine vZ ?_|fail)
  exact ⟨_,a + 1,m,by rw [hm]; exact .start (by omega),(have zz:=@t0; evZ),(have zz:=@t1; evZ),(have zz:=@t4; evZ),ev0,ev0,rfl,rfl⟩
 clear t0 t1 t2 t3 t4 ta te hm m;rintro T _ _ ⟨mu,i,j,hpt,t0,t1,t4,t12,t13,rfl,rfl⟩;have hl:M.length=n:=by rw [hp.len,hn]
 have hGM:=hp.mem hG;refine b7 (fun T H'' nx''=>∃ i:Nat,PartR P a e mu i j M∧(i ≤ j→¬ P (M.getD i default))∧T 0=.msl b n 1 0 n∧T 1=.int .i64 a∧T 4=.func g caps∧T 12=.int .i64 (i:Nat)∧T 13=.int .i64 (j:Nat)∧H''=aj H b ((M).map f)∧nx=nx'') ?_ ?_
 ·have zz:=aI @t0 (aI @t1 (aI @t4 (aI @t12 @t13))); repeat' (first|refine zW ?_|apply a_n|refine zO ?_|fail)
  refine bR (X:=Nat) (fun i=>[(0,.msl b n 1 0 n),(1,.int .i64 a),(4,.func g caps),(12,.int .i64 (i:Nat)),(13,.int .i64 (j:Nat))]) (fun i H' nxx=>PartR P a e mu i j M∧H'=aj H b (M.map f)∧nx=nxx) (fun i=>j + 1 - i) i ⟨hpt,rfl,rfl⟩ (have zz:=aI @t0 (aI @t1 (aI @t4 (aI @t12 @t13))); agZ) ?_;clear zz;clear t0 t1 t4 t12 t13 hpt i;rintro i H' nxx ⟨hpt,rfl,rfl⟩;have hlo:=hpt.lo; have hmid:=hpt.mid; have hhi:=hpt.hi;have ii:((i:Nat):Int) + 1=((i + 1:Nat):Int):=by omega
  by_cases hij:j < i
  ·repeat' (first|refine zW ?_|refine zM ?_|apply a_n|apply a_x|refine zO ?_|refine vZ ?_|refine gFZ ?_|(refine zGZ ?_ ?_ <;> (intro _hg; try (exfalso; omega)))|refine cFZ ?_|fail)
   exact ⟨i,hpt,fun h=>absurd h (by omega),rfl,rfl,rfl,rfl,rfl,rfl,rfl⟩
  have lc:=hc.run (M.getD (i) default) (M.getD (a) default) (hGM _ (bf (by omega))) (hGM _ (bf (by omega)));have e1:=hc.dat (M.getD (i) default);have e2:=hc.dat (M.getD (a) default);have hPk:P (M.getD (i) default) ↔ K (M.getD (i) default) (M.getD (a) default) < 0:=by rw [hP,hv]
  generalize hKK:K (M.getD (i) default) (M.getD (a) default)=kk at lc hPk;by_cases hlt:kk < 0
  ·have zz:=aI @ii (aI @cm (aI hc.cells hc.one)); repeat' (first|refine zW ?_|refine zM ?_|apply a_n|refine zO ?_|refine vZ ?_|refine cZ ?_ (hp:=lc) (hs:=by (first | refine aH ?_ rfl | apply aW); (repeat' (first | exact ao | apply br | apply aY | exact e1 | exact e2 | exact a7 dcap)); first | done | fail)|refine gTZ ?_|(refine zGZ ?_ ?_ <;> (intro _hg; try (exfalso; omega)))|fail)
   exact ⟨i + 1,by omega,⟨hpt.stepUp (by omega) (by rw [hPk]; exact hlt),rfl,rfl⟩,ag0⟩
  ·have zz:=aI @ii (aI @cm (aI hc.cells hc.one)); repeat' (first|refine zW ?_|refine zM ?_|apply a_n|apply a_x|refine zO ?_|refine vZ ?_|refine cZ ?_ (hp:=lc) (hs:=by (first | refine aH ?_ rfl | apply aW); (repeat' (first | exact ao | apply br | apply aY | exact e1 | exact e2 | exact a7 dcap)); first | done | fail)|refine gTZ ?_|(refine zGZ ?_ ?_ <;> (intro _hg; try (exfalso; omega)))|fail)
   exact ⟨i,hpt,fun _=>(by rw [hPk]; first | exact hlt | exact fun h=>h hlt),rfl,rfl,rfl,rfl,rfl,rfl,rfl⟩
 clear t0 t1 t4 t12 t13 hpt i;rintro T _ _ ⟨i,hpt,hni,t0,t1,t4,t12,t13,rfl,rfl⟩;refine b7 (fun T H'' nx''=>∃ j:Nat,PartR P a e mu i j M∧(i ≤ j→¬ P (M.getD i default))∧(i ≤ j→P (M.getD j default))∧T 0=.msl b n 1 0 n∧T 1=.int .i64 a∧T 4=.func g caps∧T 12=.int .i64 (i:Nat)∧T 13=.int .i64 (j:Nat)∧H''=aj H b ((M).map f)∧nx=nx'') ?_ ?_
 ·have zz:=aI @t0 (aI @t1 (aI @t4 (aI @t12 @t13))); repeat' (first|refine zW ?_|apply a_n|refine zO ?_|fail)
  refine bR (X:=Nat) (fun j=>[(0,.msl b n 1 0 n),(1,.int .i64 a),(4,.func g caps),(12,.int .i64 (i:Nat)),(13,.int .i64 (j:Nat))]) (fun j H' nxx=>PartR P a e mu i j M∧(i ≤ j→¬ P (M.getD i default))∧H'=aj H b (M.map f)∧nx=nxx) (fun j=>j) j ⟨hpt,hni,rfl,rfl⟩ (have zz:=aI @t0 (aI @t1 (aI @t4 (aI @t12 @t13))); agZ) ?_;clear zz;clear t0 t1 t4 t12 t13 hpt hni j;rintro j H' nxx ⟨hpt,hni,rfl,rfl⟩;have hlo:=hpt.lo; have hmid:=hpt.mid; have hhi:=hpt.hi;by_cases hij:j < i
  ·repeat' (first|refine zW ?_|refine zM ?_|apply a_n|apply a_x|refine zO ?_|refine vZ ?_|refine gFZ ?_|(refine zGZ ?_ ?_ <;> (intro _hg; try (exfalso; omega)))|refine cFZ ?_|fail)
   exact ⟨j,hpt,hni,fun h=>absurd h (by omega),rfl,rfl,rfl,rfl,rfl,rfl,rfl⟩
  obtain ⟨k,rfl⟩:∃ k,j=k + 1:=⟨j - 1,by omega⟩
  have tk:((k + 1:Nat):Int) - 1=(k:Int):=by omega
  have lc:=hc.run (M.getD (k + 1) default) (M.getD (a) default) (hGM _ (bf (by omega))) (hGM _ (bf (by omega)));have e1:=hc.dat (M.getD (k + 1) default);have e2:=hc.dat (M.getD (a) default);have hPk:P (M.getD (k + 1) default) ↔ K (M.getD (k + 1) default) (M.getD (a) default) < 0:=by rw [hP,hv]
  generalize hKK:K (M.getD (k + 1) default) (M.getD (a) default)=kk at lc hPk;by_cases hlt:kk < 0
  ·have zz:=aI @tk (aI @cm (aI hc.cells hc.one)); repeat' (first|refine zW ?_|refine zM ?_|apply a_n|apply a_x|refine zO ?_|refine vZ ?_|refine cZ ?_ (hp:=lc) (hs:=by (first | refine aH ?_ rfl | apply aW); (repeat' (first | exact ao | apply br | apply aY | exact e1 | exact e2 | exact a7 dcap)); first | done | fail)|refine gTZ ?_|(refine zGZ ?_ ?_ <;> (intro _hg; try (exfalso; omega)))|fail)
   exact ⟨k + 1,hpt,hni,fun _=>(by rw [hPk]; exact hlt),rfl,rfl,rfl,rfl,rfl,rfl,rfl⟩
  ·have zz:=aI @tk (aI @cm (aI hc.cells hc.one)); repeat' (first|refine zW ?_|refine zM ?_|apply a_n|refine zO ?_|refine vZ ?_|refine cZ ?_ (hp:=lc) (hs:=by (first | refine aH ?_ rfl | apply aW); (repeat' (first | exact ao | apply br | apply aY | exact e1 | exact e2 | exact a7 dcap)); first | done | fail)|refine gTZ ?_|(refine zGZ ?_ ?_ <;> (intro _hg; try (exfalso; omega)))|fail)
   exact ⟨k,by omega,⟨hpt.stepDn (by omega) (by rw [hPk]; first | exact hlt | exact fun h=>h hlt),fun _=>hni (by omega),rfl,rfl⟩,ag0⟩
 clear t0 t1 t4 t12 t13 hpt hni j;rintro T _ _ ⟨j,hpt,hni,hnj,t0,t1,t4,t12,t13,rfl,rfl⟩;have hlo:=hpt.lo; have hmid:=hpt.mid; have hhi:=hpt.hi;by_cases hji:j < i
 ·clear hni hnj;obtain ⟨z1,z2,z3,z4⟩:=hpt.done hc.ord (by omega) hji hv hP;obtain ⟨M1,hl1,lm1,lm2⟩:=dl (f:=f) (M:=M) (i:=j) (j:=a) (by omega) (by omega);have lm3:=lm2;simp only [bu,dh,fu,b6] at lm1 lm2;have zz:=aI @t0 (aI @t1 (aI @t4 (aI @t12 (aI @t13 (aI @cm (aI hc.cells (aI hc.one (aI @lm1 @lm2)))))))); repeat' (first|refine zW ?_|apply a_n|apply a_r|refine zO ?_|refine vZ ?_|refine stZ ?_|(refine zGZ ?_ ?_ <;> (intro _hg; try (exfalso; omega)))|refine b4 rfl ?_|refine r2Z ?_|fail)
  exact ⟨rfl,swp M j a,j,true,rfl,z1,z2,by rw [aV,aV,lm3],hp.trans (PermR.swap (by omega) (by omega) (by omega)),z3,z4⟩
 obtain ⟨k,rfl⟩:∃ k,j=k + 1:=⟨j - 1,by omega⟩
 have tk:((k + 1:Nat):Int) - 1=(k:Int):=by omega
 have ii:((i:Nat):Int) + 1=((i + 1:Nat):Int):=by omega
 obtain ⟨M1,hl1,lm1,lm2⟩:=dl (f:=f) (M:=M) (i:=i) (j:=k + 1) (by omega) (by omega);have lm3:=lm2;simp only [bu,dh,fu,b6] at lm1 lm2;have zz:=aI @t0 (aI @t1 (aI @t4 (aI @t12 (aI @t13 (aI @tk (aI @ii (aI @cm (aI hc.cells (aI hc.one (aI @lm1 @lm2)))))))))); repeat' (first|refine zW ?_|apply a_n|refine zO ?_|refine vZ ?_|refine stZ ?_|(refine zGZ ?_ ?_ <;> (intro _hg; try (exfalso; omega)))|fail)
 obtain ⟨hq1,hq2⟩:=hpt.swap (by omega) (by omega) (hni (by omega)) (hnj (by omega));have hp2:PermR a e L (swp M i (k + 1)):=hp.trans (PermR.swap (by omega) (by omega) (by omega));have hv2:(swp M i (k + 1)).getD a default=v:=by rw [qa (by omega) (by omega) (by omega) (by omega)]; exact hv
 refine bR (X:=Nat × Nat × List α) (fun x=>[(0,.msl b n 1 0 n),(1,.int .i64 a),(4,.func g caps),(12,.int .i64 (x.1:Nat)),(13,.int .i64 (x.2.1:Nat))]) (fun x H' nxx=>PartR P a e (x.2.1 + 1 - x.1) x.1 x.2.1 x.2.2∧H'=aj H b (x.2.2.map f)∧nx=nxx∧PermR a e L x.2.2∧x.2.2.getD a default=v) (fun x=>x.2.1 + 1 - x.1) (i + 1,k,swp M i (k + 1)) ⟨hq1,by dsimp only; rw [aV,aV,lm3],rfl,hp2,hv2⟩ (have zz:=aI @t0 (aI @t1 (aI @t4 (aI @t12 @t13))); agZ) ?_;clear zz;clear t0 t1 t4 t12 t13 lm1 lm2 lm3 hl1 M1 hp2 hv2 hq1 hq2 hpt hni hnj hp hv hGM;rintro ⟨i,j,M⟩ H' nxx ⟨hpt,rfl,rfl,hp,hv⟩;dsimp only at *;have hl:M.length=n:=by rw [hp.len,hn]
 have hGM:=hp.mem hG;generalize hmu:j + 1 - i=mu at hpt ⊢;clear hmu;obtain ⟨T,hT,t0,t1,t4,t12,t13⟩:∃ T,tl [(0,.msl b n 1 0 n),(1,.int .i64 a),(4,.func g caps),(12,.int .i64 (i:Nat)),(13,.int .i64 (j:Nat))]=T∧T 0=.msl b n 1 0 n∧T 1=.int .i64 a∧T 4=.func g caps∧T 12=.int .i64 (i:Nat)∧T 13=.int .i64 (j:Nat):=⟨_,rfl,rfl,rfl,rfl,rfl,rfl⟩
 rw [hT];clear hT;refine jh ?_;refine b7 (fun T H'' nx''=>∃ i:Nat,PartR P a e mu i j M∧(i ≤ j→¬ P (M.getD i default))∧T 0=.msl b n 1 0 n∧T 1=.int .i64 a∧T 4=.func g caps∧T 12=.int .i64 (i:Nat)∧T 13=.int .i64 (j:Nat)∧H''=aj H b ((M).map f)∧nx=nx'') ?_ ?_
 ·have zz:=aI @t0 (aI @t1 (aI @t4 (aI @t12 @t13))); repeat' (first|refine zW ?_|apply a_n|refine zO ?_|fail)
  refine bR (X:=Nat) (fun i=>[(0,.msl b n 1 0 n),(1,.int .i64 a),(4,.func g caps),(12,.int .i64 (i:Nat)),(13,.int .i64 (j:Nat))]) (fun i H' nxx=>PartR P a e mu i j M∧H'=aj H b (M.map f)∧nx=nxx) (fun i=>j + 1 - i) i ⟨hpt,rfl,rfl⟩ (have zz:=aI @t0 (aI @t1 (aI @t4 (aI @t12 @t13))); agZ) ?_;clear zz;clear t0 t1 t4 t12 t13 hpt i;rintro i H' nxx ⟨hpt,rfl,rfl⟩;have hlo:=hpt.lo; have hmid:=hpt.mid; have hhi:=hpt.hi;have ii:((i:Nat):Int) + 1=((i + 1:Nat):Int):=by omega
  by_cases hij:j < i
  ·repeat' (first|refine zW ?_|refine zM ?_|apply a_n|apply a_x|refine zO ?_|refine vZ ?_|refine gFZ ?_|(refine zGZ ?_ ?_ <;> (intro _hg; try (exfalso; omega)))|refine cFZ ?_|fail)
   exact ⟨i,hpt,fun h=>absurd h (by omega),rfl,rfl,rfl,rfl,rfl,rfl,rfl⟩
  have lc:=hc.run (M.getD (i) default) (M.getD (a) default) (hGM _ (bf (by omega))) (hGM _ (bf (by omega)));have e1:=hc.dat (M.getD (i) default);have e2:=hc.dat (M.getD (a) default);have hPk:P (M.getD (i) default) ↔ K (M.getD (i) default) (M.getD (a) default) < 0:=by rw [hP,hv]
  generalize hKK:K (M.getD (i) default) (M.getD (a) default)=kk at lc hPk;by_cases hlt:kk < 0
  ·have zz:=aI @ii (aI @cm (aI hc.cells hc.one)); repeat' (first|refine zW ?_|refine zM ?_|apply a_n|refine zO ?_|refine vZ ?_|refine cZ ?_ (hp:=lc) (hs:=by (first | refine aH ?_ rfl | apply aW); (repeat' (first | exact ao | apply br | apply aY | exact e1 | exact e2 | exact a7 dcap)); first | done | fail)|refine gTZ ?_|(refine zGZ ?_ ?_ <;> (intro _hg; try (exfalso; omega)))|fail)
   exact ⟨i + 1,by omega,⟨hpt.stepUp (by omega) (by rw [hPk]; exact hlt),rfl,rfl⟩,ag0⟩
  ·have zz:=aI @ii (aI @cm (aI hc.cells hc.one)); repeat' (first|refine zW ?_|refine zM ?_|apply a_n|apply a_x|refine zO ?_|refine vZ ?_|refine cZ ?_ (hp:=lc) (hs:=by (first | refine aH ?_ rfl | apply aW); (repeat' (first | exact ao | apply br | apply aY | exact e1 | exact e2 | exact a7 dcap)); first | done | fail)|refine gTZ ?_|(refine zGZ ?_ ?_ <;> (intro _hg; try (exfalso; omega)))|fail)
   exact ⟨i,hpt,fun _=>(by rw [hPk]; first | exact hlt | exact fun h=>h hlt),rfl,rfl,rfl,rfl,rfl,rfl,rfl⟩
 clear t0 t1 t4 t12 t13 hpt i;rintro T _ _ ⟨i,hpt,hni,t0,t1,t4,t12,t13,rfl,rfl⟩;refine b7 (fun T H'' nx''=>∃ j:Nat,PartR P a e mu i j M∧(i ≤ j→¬ P (M.getD i default))∧(i ≤ j→P (M.getD j default))∧T 0=.msl b n 1 0 n∧T 1=.int .i64 a∧T 4=.func g caps∧T 12=.int .i64 (i:Nat)∧T 13=.int .i64 (j:Nat)∧H''=aj H b ((M).map f)∧nx=nx'') ?_ ?_
 ·have zz:=aI @t0 (aI @t1 (aI @t4 (aI @t12 @t13))); repeat' (first|refine zW ?_|apply a_n|refine zO ?_|fail)
  refine bR (X:=Nat) (fun j=>[(0,.msl b n 1 0 n),(1,.int .i64 a),(4,.func g caps),(12,.int .i64 (i:Nat)),(13,.int .i64 (j:Nat))]) (fun j H' nxx=>PartR P a e mu i j M∧(i ≤ j→¬ P (M.getD i default))∧H'=aj H b (M.map f)∧nx=nxx) (fun j=>j) j ⟨hpt,hni,rfl,rfl⟩ (have zz:=aI @t0 (aI @t1 (aI @t4 (aI @t12 @t13))); agZ) ?_;clear zz;clear t0 t1 t4 t12 t13 hpt hni j;rintro j H' nxx ⟨hpt,hni,rfl,rfl⟩;have hlo:=hpt.lo; have hmid:=hpt.mid; have hhi:=hpt.hi;by_cases hij:j < i
  ·repeat' (first|refine zW ?_|refine zM ?_|apply a_n|apply a_x|refine zO ?_|refine vZ ?_|refine gFZ ?_|(refine zGZ ?_ ?_ <;> (intro _hg; try (exfalso; omega)))|refine cFZ ?_|fail)
   exact ⟨j,hpt,hni,fun h=>absurd h (by omega),rfl,rfl,rfl,rfl,rfl,rfl,rfl⟩
  obtain ⟨k,rfl⟩:∃ k,j=k + 1:=⟨j - 1,by omega⟩
  have tk:((k + 1:Nat):Int) - 1=(k:Int):=by omega
  have lc:=hc.run (M.getD (k + 1) default) (M.getD (a) default) (hGM _ (bf (by omega))) (hGM _ (bf (by omega)));have e1:=hc.dat (M.getD (k + 1) default);have e2:=hc.dat (M.getD (a) default);have hPk:P (M.getD (k + 1) default) ↔ K (M.getD (k + 1) default) (M.getD (a) default) < 0:=by rw [hP,hv]
  generalize hKK:K (M.getD (k + 1) default) (M.getD (a) default)=kk at lc hPk;by_cases hlt:kk < 0
  ·have zz:=aI @tk (aI @cm (aI hc.cells hc.one)); repeat' (first|refine zW ?_|refine zM ?_|apply a_n|apply a_x|refine zO ?_|refine vZ ?_|refine cZ ?_ (hp:=lc) (hs:=by (first | refine aH ?_ rfl | apply aW); (repeat' (first | exact ao | apply br | apply aY | exact e1 | exact e2 | exact a7 dcap)); first | done | fail)|refine gTZ ?_|(refine zGZ ?_ ?_ <;> (intro _hg; try (exfalso; omega)))|fail)
   exact ⟨k + 1,hpt,hni,fun _=>(by rw [hPk]; exact hlt),rfl,rfl,rfl,rfl,rfl,rfl,rfl⟩
  ·have zz:=aI @tk (aI @cm (aI hc.cells hc.one)); repeat' (first|refine zW ?_|refine zM ?_|apply a_n|refine zO ?_|refine vZ ?_|refine cZ ?_ (hp:=lc) (hs:=by (first | refine aH ?_ rfl | apply aW); (repeat' (first | exact ao | apply br | apply aY | exact e1 | exact e2 | exact a7 dcap)); first | done | fail)|refine gTZ ?_|(refine zGZ ?_ ?_ <;> (intro _hg; try (exfalso; omega)))|fail)
   exact ⟨k,by omega,⟨hpt.stepDn (by omega) (by rw [hPk]; first | exact hlt | exact fun h=>h hlt),fun _=>hni (by omega),rfl,rfl⟩,ag0⟩
 clear t0 t1 t4 t12 t13 hpt hni j;rintro T _ _ ⟨j,hpt,hni,hnj,t0,t1,t4,t12,t13,rfl,rfl⟩;have hlo:=hpt.lo; have hmid:=hpt.mid; have hhi:=hpt.hi;by_cases hji:j < i
 ·clear hni hnj;obtain ⟨z1,z2,z3,z4⟩:=hpt.done hc.ord (by omega) hji hv hP;obtain ⟨M1,hl1,lm1,lm2⟩:=dl (f:=f) (M:=M) (i:=j) (j:=a) (by omega) (by omega);have lm3:=lm2;simp only [bu,dh,fu,b6] at lm1 lm2;have zz:=aI @t0 (aI @t1 (aI @t4 (aI @t12 (aI @t13 (aI @cm (aI hc.cells (aI hc.one (aI @lm1 @lm2)))))))); repeat' (first|refine zW ?_|apply a_n|apply a_x|refine zO ?_|refine vZ ?_|refine stZ ?_|(refine zGZ ?_ ?_ <;> (intro _hg; try (exfalso; omega)))|refine b4 rfl ?_|refine r2Z ?_|fail)
  exact ⟨rfl,swp M j a,j,false,rfl,z1,z2,by rw [aV,aV,lm3],hp.trans (PermR.swap (by omega) (by omega) (by omega)),z3,z4⟩
 obtain ⟨k,rfl⟩:∃ k,j=k + 1:=⟨j - 1,by omega⟩
 have tk:((k + 1:Nat):Int) - 1=(k:Int):=by omega
 have ii:((i:Nat):Int) + 1=((i + 1:Nat):Int):=by omega
 obtain ⟨M1,hl1,lm1,lm2⟩:=dl (f:=f) (M:=M) (i:=i) (j:=k + 1) (by omega) (by omega);have lm3:=lm2;simp only [bu,dh,fu,b6] at lm1 lm2;have zz:=aI @t0 (aI @t1 (aI @t4 (aI @t12 (aI @t13 (aI @tk (aI @ii (aI @cm (aI hc.cells (aI hc.one (aI @lm1 @lm2)))))))))); repeat' (first|refine zW ?_|apply a_n|refine zO ?_|refine vZ ?_|refine stZ ?_|(refine zGZ ?_ ?_ <;> (intro _hg; try (exfalso; omega)))|fail)
 obtain ⟨hq1,hq2⟩:=hpt.swap (by omega) (by omega) (hni (by omega)) (hnj (by omega));exact ⟨(i + 1,k,swp M i (k + 1)),hq2,⟨hq1,by dsimp only; rw [aV,aV,lm3],rfl,hp.trans (PermR.swap (by omega) (by omega) (by omega)),by dsimp only; rw [qa (by omega) (by omega) (by omega) (by omega)]; exact hv⟩,(have zz:=aI @t0 (aI @t1 (aI @t4 (aI @t12 @t13))); agZ)⟩
end
end Go.Proofs.YtekdaafnjdlenaaGreat
namespace Go.Proofs.YtekdaafnjdlenaaGreat
open Go Go.Abs
def lO (x:Nat):Nat:=if x=0 then 0 else Nat.log2 x + 1
def o0:ByteArray:=ByteArray.mk (Array.mk [0,1,2,2,3,3,3,3,4,4,4,4,4,4,4,4,5,5,5,5,5,5,5,5,5,5,5,5,5,5,5,5,6,6,6,6,6,6,6,6,6,6,6,6,6,6,6,6,6,6,6,6,6,6,6,6,6,6,6,6,6,6,6,6,7,7,7,7,7,7,7,7,7,7,7,7,7,7,7,7,7,7,7,7,7,7,7,7,7,7,7,7,7,7,7,7,7,7,7,7,7,7,7,7,7,7,7,7,7,7,7,7,7,7,7,7,7,7,7,7,7,7,7,7,7,7,7,7,8,8,8,8,8,8,8,8,8,8,8,8,8,8,8,8,8,8,8,8,8,8,8,8,8,8,8,8,8,8,8,8,8,8,8,8,8,8,8,8,8,8,8,8,8,8,8,8,8,8,8,8,8,8,8,8,8,8,8,8,8,8,8,8,8,8,8,8,8,8,8,8,8,8,8,8,8,8,8,8,8,8,8,8,8,8,8,8,8,8,8,8,8,8,8,8,8,8,8,8,8,8,8,8,8,8,8,8,8,8,8,8,8,8,8,8,8,8,8,8,8,8,8,8,8,8,8,8])
theorem CY (x:Nat):x < 2 ^ lO x:=by
 unfold lO;split
 ·omega
 ·exact Nat.lt_log2_self
theorem yr {x:Nat} (h:0 < x):2 ^ lO x ≤ 2 * x:=by
 unfold lO;rw [if_neg (by omega),Nat.pow_succ];have:=Nat.log2_self_le (n:=x) (by omega);omega
theorem vv {x:Nat} (hx:x < 256):lA (.str (ByteArray.mk (Array.mk [0,1,2,2,3,3,3,3,4,4,4,4,4,4,4,4,5,5,5,5,5,5,5,5,5,5,5,5,5,5,5,5,6,6,6,6,6,6,6,6,6,6,6,6,6,6,6,6,6,6,6,6,6,6,6,6,6,6,6,6,6,6,6,6,7,7,7,7,7,7,7,7,7,7,7,7,7,7,7,7,7,7,7,7,7,7,7,7,7,7,7,7,7,7,7,7,7,7,7,7,7,7,7,7,7,7,7,7,7,7,7,7,7,7,7,7,7,7,7,7,7,7,7,7,7,7,7,7,8,8,8,8,8,8,8,8,8,8,8,8,8,8,8,8,8,8,8,8,8,8,8,8,8,8,8,8,8,8,8,8,8,8,8,8,8,8,8,8,8,8,8,8,8,8,8,8,8,8,8,8,8,8,8,8,8,8,8,8,8,8,8,8,8,8,8,8,8,8,8,8,8,8,8,8,8,8,8,8,8,8,8,8,8,8,8,8,8,8,8,8,8,8,8,8,8,8,8,8,8,8,8,8,8,8,8,8,8,8,8,8,8,8,8,8,8,8,8,8,8,8,8,8,8,8,8,8]))) (.int .u8 (x:Nat))=some (.int .u8 (lO x:Nat)):=by
 have h1:o0.size=256:=by decide +kernel
 have h2:∀ i:Fin 256,(o0[i.val]?.getD 0).toNat=lO i.val:=by decide +kernel
 rw [SV2.2.2.2.2.2.2.2.2];have h3:=h2 ⟨x,hx⟩;change (if 0 ≤ (x:Int)∧(x:Int) < o0.size then some (AV.int .u8 (o0[(x:Int).toNat]?.getD 0).toNat) else none)=_;rw [if_pos ⟨by omega,by rw [h1]; omega⟩,cm];simp only at h3;rw [h3]
theorem oP {x s k:Nat} (hk:k=lO (x / 2 ^ s)) (h:0 < x / 2 ^ s):x < 2 ^ (k + s)∧2 ^ (k + s) ≤ 2 * x:=by
 subst hk;have h1:=CY (x / 2 ^ s);have h2:=yr h;have hp:0 < 2 ^ s:=Nat.pow_pos (by omega);rw [Nat.pow_add];constructor
 ·have:=(Nat.div_lt_iff_lt_mul hp).1 h1;exact this
 ·calc 2 ^ lO (x / 2 ^ s) * 2 ^ s ≤ 2 * (x / 2 ^ s) * 2 ^ s:=jA _ h2
    _=2 * (x / 2 ^ s * 2 ^ s):=by rw [Nat.mul_assoc]
    _ ≤ 2 * x:=Nat.mul_le_mul_left _ (Nat.div_mul_le_self x (2 ^ s))
theorem jb {x:Nat} (hx:x < 256):lO x ≤ 8:=by
 rcases we x with e | e
 ·subst e; decide
 ·have h:=yr e;rcases nP 8 (lO x) with h1 | h1
  ·have:=Nat.pow_le_pow_right (n:=2) (by omega) h1;omega
  ·exact h1
theorem fJ {x:Int} (h:0 ≤ x) (h2:x < 18446744073709551616):IntKind.wrap .u64 x=x:=by
 simp only [IntKind.bits,IntKind.wrap,IntKind.signed]; simp; omega
theorem qr {x:Int} (h:0 ≤ x) (h2:x < 256):IntKind.wrap .u8 x=x:=by
 simp only [IntKind.bits,IntKind.wrap,IntKind.signed]; simp; omega
def xr (a b:Int):Int:=IntKind.wrap .u64 (BitVec.ofInt 64 a ^^^ BitVec.ofInt 64 b).toNat
def Fr (a:Int):Int:=IntKind.wrap .u64 (a * 2 ^ 13)
def Gw (a:Int):Int:=IntKind.wrap .u64 (a * 2 ^ 17)
def sr7 (a:Int):Int:=a.fdiv (2 ^ 7)
theorem SX:(∀ a b:Int,bc .xor false false (.int .u64 a) (.int .u64 b)=some (.int .u64 (xr a b)))∧(∀ a:Int,bc .shl false false (.int .u64 a) (.int .u64 13)=some (.int .u64 (Fr a))) ∧
    (∀ a:Int,bc .shl false false (.int .u64 a) (.int .u64 17)=some (.int .u64 (Gw a)))∧(∀ a:Int,bc .shr false false (.int .u64 a) (.int .u64 7)=some (.int .u64 (sr7 a))) :=
 ⟨fun _ _=>rfl,fun _=>rfl,fun _=>rfl,fun _=>rfl⟩
attribute [irreducible] xr Fr Gw sr7
attribute [local irreducible] aA ag a8 aQ aK aL ar aN aU bd Go.Abs.Fn aP Go.Abs.Pure an aG Yl
theorem Ec {H:Hp} {c nx:Nat} {s:Int} (hcc:H c=some [.int .u64 s]):Abs.Fn Tryz.prog 199 [.ptr c 1 0] H nx fun r H' nx'=>nx'=nx∧∃ s':Int,r=.int .u64 s'∧H'=aj H c [.int .u64 s']:=by
 refine fO FF ?_;simp only [FU,aJ];have ls:∀ x y:AV,bu [x] 0 [y]=[y]:=fun _ _=>rfl;simp only [bu,dh,fu,b6] at ls;refine wnZ (zI4 @hcc @SV3 @SX @ls) ?_;exact ⟨rfl,_,rfl,by rw [aV,aV]; rfl⟩
set_option maxRecDepth 100000 in
theorem CU {H:Hp} {nx x:Nat} (hx:0 < x) (h2:x < 4294967296):Abs.Fn Tryz.prog 175 [.int .u64 x] H nx fun r H' nx'=>nx'=nx∧H'=H∧∃ k:Nat,r=.int .i64 k∧x < 2 ^ k∧2 ^ k ≤ 2 * x:=by
 refine fO Dp ?_;simp only [DB,aJ];generalize hT:AV.str (ByteArray.mk (Array.mk [0,1,2,2,3,3,3,3,4,4,4,4,4,4,4,4,5,5,5,5,5,5,5,5,5,5,5,5,5,5,5,5,6,6,6,6,6,6,6,6,6,6,6,6,6,6,6,6,6,6,6,6,6,6,6,6,6,6,6,6,6,6,6,6,7,7,7,7,7,7,7,7,7,7,7,7,7,7,7,7,7,7,7,7,7,7,7,7,7,7,7,7,7,7,7,7,7,7,7,7,7,7,7,7,7,7,7,7,7,7,7,7,7,7,7,7,7,7,7,7,7,7,7,7,7,7,7,7,8,8,8,8,8,8,8,8,8,8,8,8,8,8,8,8,8,8,8,8,8,8,8,8,8,8,8,8,8,8,8,8,8,8,8,8,8,8,8,8,8,8,8,8,8,8,8,8,8,8,8,8,8,8,8,8,8,8,8,8,8,8,8,8,8,8,8,8,8,8,8,8,8,8,8,8,8,8,8,8,8,8,8,8,8,8,8,8,8,8,8,8,8,8,8,8,8,8,8,8,8,8,8,8,8,8,8,8,8,8,8,8,8,8,8,8,8,8,8,8,8,8,8,8,8,8,8,8]))=tb;have htab:∀ x:Nat,x < 256→lA tb (.int .u8 (x:Nat))=some (.int .u8 (lO x:Nat)):=fun x hx=>by rw [← hT]; exact vv hx
 clear hT;have s16:∀ z:Nat,bc .shr false false (.int .u64 (z:Nat)) (.int .u64 16)=some (.int .u64 ((z / 2 ^ 16:Nat):Int)):=fun z=>sj (b:=16) (k:=.u64) (k':=.u64) (by decide);have s8:∀ z:Nat,bc .shr false false (.int .u64 (z:Nat)) (.int .u64 8)=some (.int .u64 ((z / 2 ^ 8:Nat):Int)):=fun z=>sj (b:=8) (k:=.u64) (k':=.u64) (by decide);by_cases h16:65536 ≤ x
 ·obtain ⟨y,hy⟩:∃ y,x / 2 ^ 16=y:=⟨_,rfl⟩
  have hy1:0 < y:=by omega
  have hy2:y < 65536:=by omega
  by_cases h8:256 ≤ y
  ·obtain ⟨z,hz⟩:∃ z,y / 2 ^ 8=z:=⟨_,rfl⟩
   have hz1:0 < z:=by omega
   have hz2:z < 256:=by omega
   have hl:=jb hz2;have w8:IntKind.wrap .u8 (z:Int)=z:=qr (by omega) (by omega);have ht:=htab z hz2;refine wnZ (zI6 @s16 @s8 @hy @hz @w8 @ht) ?_;have e:x / 2 ^ 24=z:=by rw [← hz,← hy,Nat.div_div_eq_div_mul]
   exact ⟨rfl,rfl,lO z + 24,by congr 1; omega,oP (by rw [e]) (by omega)⟩
  ·have hl:=jb (x:=y) (by omega);have w8:IntKind.wrap .u8 (y:Int)=y:=qr (by omega) (by omega);have ht:=htab y (by omega);refine wnZ (zI5 @s16 @s8 @hy @w8 @ht) ?_;exact ⟨rfl,rfl,lO y + 16,by congr 1; omega,oP (by rw [hy]) (by omega)⟩
 ·by_cases h8:256 ≤ x
  ·obtain ⟨z,hz⟩:∃ z,x / 2 ^ 8=z:=⟨_,rfl⟩
   have hz1:0 < z:=by omega
   have hz2:z < 256:=by omega
   have hl:=jb hz2;have w8:IntKind.wrap .u8 (z:Int)=z:=qr (by omega) (by omega);have ht:=htab z hz2;refine wnZ (zI5 @s16 @s8 @hz @w8 @ht) ?_;exact ⟨rfl,rfl,lO z + 8,by congr 1; omega,oP (by rw [hz]) (by omega)⟩
  ·have hl:=jb (x:=x) (by omega);have w8:IntKind.wrap .u8 (x:Int)=x:=qr (by omega) (by omega);have ht:=htab x (by omega);refine wnZ (aI @w8 @ht) ?_;exact ⟨rfl,rfl,lO x + 0,by congr 1; omega,oP (s:=0) (by simp) (by simpa using hx)⟩
theorem Du {H:Hp} {nx x:Nat} (hx:0 < x) (h2:x < 4294967296):Abs.Fn Tryz.prog 156 [.int .u64 x] H nx fun r H' nx'=>nx'=nx∧H'=H∧∃ k:Nat,r=.int .i64 k∧x < 2 ^ k∧2 ^ k ≤ 2 * x:=by
 refine fO Dl ?_;simp only [DP,aJ];refine wnZ and_self ?_;refine bg ev0 ev0 (CU hx h2) ?_;rintro _ _ _ ⟨rfl,rfl,k,rfl,h3,h4⟩;refine wnZ and_self ?_;exact ⟨rfl,rfl,k,rfl,h3,h4⟩
theorem DZ {H:Hp} {nx x:Nat} (hx:0 < x) (h2:x ≤ 1000000000):Abs.Fn Tryz.prog 198 [.int .i64 x] H nx fun r H' nx'=>nx'=nx∧H'=H∧∃ k:Nat,r=.int .u64 ((2 ^ k:Nat):Int)∧x < 2 ^ k∧2 ^ k ≤ 2 * x:=by
 have w:IntKind.wrap .u64 (x:Int)=x:=fJ (by omega) (by omega);refine fO Hg ?_;simp only [F3,aJ];refine wnZ @w ?_;refine bg ev0 (have zz:=@w; evZ) (Du hx (by omega)) ?_;rintro _ _ _ ⟨rfl,rfl,k,rfl,h3,h4⟩
 have hk:k ≤ 62:=by
  rcases nP 62 k with h | h
  ·have:=Nat.pow_le_pow_right (n:=2) (by omega) h;omega
  ·exact h
 have sh:bc .shl false false (.int .u64 1) (.int .i64 (k:Int))=some (.int .u64 ((2 ^ k:Nat):Int)):=by
  have h:=xY (k:=.u64) (k':=.i64) (a:=1) (b:=k) (tb:=false) (tf:=false) (by show k ≤ 64; omega) (by show 1 * 2 ^ k < 2 ^ 63; omega);rw [Nat.one_mul] at h;exact h
 refine wnZ @sh ?_;exact ⟨rfl,rfl,k,rfl,h3,h4⟩
end Go.Proofs.YtekdaafnjdlenaaGreat
namespace Go.Proofs.YtekdaafnjdlenaaGreat
open Go Go.Abs
open Nat (reduceEqDiff reduceAdd reduceLeDiff)
theorem B0 {a:Int} {m:Nat} (hm:m < 18446744073709551616):∃ r:Nat,bc .and false false (.int .u64 a) (.int .u64 (m:Nat))=some (.int .u64 (r:Nat))∧r ≤ m:=by
 refine ⟨(BitVec.ofInt 64 a).toNat &&& m,?_,Nat.and_le_right⟩;show (if (IntKind.u64=IntKind.u64) then dW .and .u64 a m else none)=_;rw [if_pos rfl]
 have h:(BitVec.ofInt 64 a &&& BitVec.ofInt 64 (m:Int)).toNat=(BitVec.ofInt 64 a).toNat &&& m:=by
  rw [BitVec.toNat_and]
  congr 1
  simp [BitVec.toNat_ofInt];omega
 have h2:(BitVec.ofInt 64 a).toNat &&& m ≤ m:=Nat.and_le_right;show some (AV.int .u64 (IntKind.wrap .u64 ((BitVec.ofInt 64 a &&& BitVec.ofInt 64 (m:Int)).toNat:Int)))=_;rw [h,fJ (by omega) (by omega)]
section
variable {α:Type} [Inhabited α] {f:α→AV} {K:α→α→Int} {G:α→Prop} {g:Nat} {caps:List AV}
attribute [local irreducible] aA ag a8 aQ aK aL ar aN aU bd Go.Abs.Fn aP Go.Abs.Pure an aG Yl
theorem CA (hc:Cmp Tryz.prog f K G g caps) {L:List α} {H:Hp} {b nx n a e:Nat} (hH:H b=some (L.map f)) (hbx:b < nx) (hn:L.length=n) (hae:a + 8 ≤ e) (hen:e ≤ n) (hn2:n ≤ 1000000000) :
    Abs.Fn Tryz.prog 168 [.msl b n 1 0 n,.int .i64 a,.int .i64 e,.func g caps] H nx fun r H' nx'=>nx'=nx + 1∧∃ L',H' b=some (L'.map f)∧(∀ i,i < nx→i ≠ b→H' i=H i)∧PermR a e L L':=by
 obtain ⟨l,rfl⟩:∃ l,e=a + l:=⟨e - a,by omega⟩
 have te:((a + l:Nat):Int) - (a:Int)=(l:Int):=by omega
 obtain ⟨w,hw⟩:∃ w,a + l / 4 * 2 - 1=w:=⟨_,rfl⟩
 have tq:bc .quo false false (.int .i64 (l:Int)) (.int .i64 4)=some (.int .i64 ((l / 4:Nat):Int)):=by
  rw [oV (by omega) (by omega) (by omega)]
  congr 2
 have w1:(a:Int) + ((l / 4:Nat):Int) * 2 - 1=(w:Int):=by omega
 have w2:(a:Int) + ((l / 4:Nat):Int) * 2 + 1=((w + 2:Nat):Int):=by omega
 have hbn:b ≠ nx:=by omega
 have wl:IntKind.wrap .u64 (l:Int)=l:=fJ (by omega) (by omega);refine fO Fj ?_;simp only [He,aJ];have ls:∀ x y:AV,bu [x] 0 [y]=[y]:=fun _ _=>rfl;simp only [bu,dh,fu,b6] at ls;refine wnZ (zI3 @te @wl @ls) ?_;refine bg ev0 ev0 (DZ (x:=l) (by omega) (by omega)) ?_;rintro _ _ _ ⟨rfl,rfl,k,rfl,hk1,hk2⟩;obtain ⟨p,hp⟩:∃ p,2 ^ k=p + 1:=⟨2 ^ k - 1,by omega⟩
 rw [hp] at hk1 hk2 ⊢;refine wnZ (zI3 @te @tq @w1) ?_;have wm:IntKind.wrap .u64 (((p + 1:Nat):Int) - 1)=(p:Int):=by rw [fJ (by omega) (by omega)]; omega
 refine bR (X:=Nat × List α) (fun x=>[(0,.msl b n 1 0 n),(1,.int .i64 a),(8,.int .i64 l),(9,.ptr nx 1 0),(10,.int .u64 ((p + 1:Nat):Int)),(11,.int .i64 (x.1:Nat))]) (fun x H' nxx=>w ≤ x.1∧x.1 ≤ w + 3∧H' b=some (x.2.map f)∧(∃ s,H' nx=some [.int .u64 s])∧(∀ i,i < nx→i ≠ b→H' i=H i)∧nxx=nx + 1∧PermR a (a + l) L x.2) (fun x=>w + 3 - x.1) (w,L) ⟨aR _,by dsimp only; omega,by dsimp only; rw [ab hbn]; first | exact hH | (rw [ab hbn]; exact hH),⟨_,af⟩,fun i h1 h2=>by rw [ab (by omega)]; first | rfl | exact ab (by omega),rfl,.refl⟩ (by simp (disch:=omega) only [agr,ZG,reduceEqDiff,↓reduceIte,dh,fu,b6,true_and]) ?_;rintro ⟨i,M⟩ H1 nxx ⟨h1,h2,hb1,⟨s,hs⟩,hfr,rfl,hp1⟩;dsimp only at *;have hl:M.length=n:=by rw [hp1.len,hn]
 by_cases hi:i=w + 3
 ·subst hi;refine wnZ (aI @tq @w2) ?_;exact ⟨rfl,M,hb1,hfr,hp1⟩
 have ti:((i:Nat):Int) + 1=((i + 1:Nat):Int):=by omega
 refine wnZ (aI @tq @w2) ?_;refine bg ev0 ev0 (Ec hs) ?_;rintro _ _ _ ⟨rfl,s1,rfl,rfl⟩;obtain ⟨r,hr1,hr2⟩:=B0 (a:=s1) (m:=p) (by omega);obtain ⟨H2,hH2⟩:∃ H2,aj H1 nx [.int .u64 s1]=H2:=⟨_,rfl⟩
 have hb2:H2 b=some (M.map f):=by rw [← hH2,ab hbn]; exact hb1
 have hs2:H2 nx=some [.int .u64 s1]:=by rw [← hH2]; exact af
 have hfr2:∀ i,i < nx→i ≠ b→H2 i=H i:=fun i k1 k2=>by rw [← hH2,ab (by omega)]; exact hfr i k1 k2
 rw [hH2];clear hH2 hb1 hs hfr
 obtain ⟨z,hz,hzl⟩:∃ z:Nat,(if l ≤ r then (r:Int) - l else (r:Int))=(z:Int)∧z < l:=by
  split
  ·exact ⟨r - l,by omega,by omega⟩
  ·exact ⟨r,rfl,by omega⟩
 obtain ⟨M1,hl1,lm1,lm2⟩:=dl (f:=f) (M:=M) (i:=i) (j:=a + z) (by omega) (by omega);have lm3:=lm2;simp only [bu,dh,fu,b6] at lm1 lm2;by_cases hrl:l ≤ r
 ·rw [if_pos hrl] at hz;refine wnZ (jX @wm @hr1 @hz @hb2 @ti @fA hc.cells hc.one @lm1 @lm2) ?_;exact ⟨(i + 1,swp M i (a + z)),by dsimp only; omega,⟨by dsimp only; omega,by dsimp only; omega,by dsimp only; rw [aV,lm3,af],⟨s1,by rw [aV,ab (Ne.symm hbn)]; exact hs2⟩,fun i k1 k2=>by rw [aV,ab k2]; exact hfr2 i k1 k2,rfl,hp1.trans (PermR.swap (by omega) (by omega) (by omega))⟩,ag0⟩
 ·rw [if_neg hrl] at hz;have hz':r=z:=by omega
  subst hz';refine wnZ (zI9 @wm @hr1 @hb2 @ti @fA hc.cells hc.one @lm1 @lm2) ?_;exact ⟨(i + 1,swp M i (a + r)),by dsimp only; omega,⟨by dsimp only; omega,by dsimp only; omega,by dsimp only; rw [aV,lm3,af],⟨s1,by rw [aV,ab (Ne.symm hbn)]; exact hs2⟩,fun i k1 k2=>by rw [aV,ab k2]; exact hfr2 i k1 k2,rfl,hp1.trans (PermR.swap (by omega) (by omega) (by omega))⟩,ag0⟩
end
end Go.Proofs.YtekdaafnjdlenaaGreat
namespace Go.Proofs.YtekdaafnjdlenaaGreat
open Go Go.Abs
structure PS (H H1:Hp) (nx n1 b:Nat) (cs:List AV):Prop where
 at_:H1 b=some cs
 fr:∀ i,i < nx→i ≠ b→H1 i=H i
 le:nx ≤ n1
section
variable {H H1 H2:Hp} {nx n1 n2 b:Nat} {cs cs':List AV}
theorem PS.upd (h:PS H H1 nx n1 b cs):PS H (aj H1 b cs') nx n1 b cs':=⟨af,fun i k1 k2=>by rw [ab k2]; exact h.fr i k1 k2,h.le⟩
theorem PS.new {v:List AV} (hb:b < nx) (h:PS H H1 nx n1 b cs):PS H (aj H1 n1 v) nx (n1 + 1) b cs :=
 have h1:=h.le
 ⟨by rw [ab (by omega)]; exact h.at_,fun i k1 k2=>by rw [ab (by omega)]; exact h.fr i k1 k2,by omega⟩
theorem PS.rec_ (h:PS H H1 nx n1 b cs) (h1:H2 b=some cs') (h2:∀ i,i < n1→i ≠ b→H2 i=H1 i) (h3:n1 ≤ n2):PS H H2 nx n2 b cs' :=
 have h4:=h.le
 ⟨h1,fun i k1 k2=>by rw [h2 i (by omega) k2]; exact h.fr i k1 k2,by omega⟩
end
section
variable {α:Type} [Inhabited α] {f:α→AV} {K:α→α→Int} {G:α→Prop} {g:Nat} {caps:List AV}
structure PI {α:Type} [Inhabited α] (K:α→α→Int) (a e:Nat) (L:List α) (a1 e1:Nat) (M:List α):Prop where
 lo:a ≤ a1
 mid:a1 ≤ e1
 hi:e1 ≤ e
 len:e ≤ L.length
 perm:PermR a e L M
 low:rn K a1 e1 M
 close:∀ N,PermR a1 e1 M N→bi K a1 e1 N→bi K a e N
variable {a e a1 e1:Nat} {L M N:List α}
theorem PI.mlen (h:PI K a e L a1 e1 M):e1 ≤ M.length:=by rw [h.perm.len]; exact eW h.hi h.len
theorem PI.start (h1:a ≤ e) (h2:e ≤ L.length) (h3:rn K a e L):PI K a e L a e L:=⟨aR _,h1,aR _,h2,.refl,h3,fun _ _ h=>h⟩
theorem PI.swap (h:PI K a e L a1 e1 M) (hp:PermR a1 e1 M N):PI K a e L a1 e1 N :=
 ⟨h.lo,h.mid,h.hi,h.len,h.perm.trans (hp.mono h.lo h.hi),h.low.perm hp h.mid h.mlen,fun N' k1 k2=>h.close N' (hp.trans k1) k2⟩
theorem PI.done (h:PI K a e L a1 e1 M) (hp:PermR a1 e1 M N) (hs:bi K a1 e1 N):PermR a e L N∧bi K a e N:=⟨h.perm.trans (hp.mono h.lo h.hi),h.close N hp hs⟩
theorem PI.equal {v:α} {m:Nat} (hK:Ord K) (h:PI K a e L a1 e1 M) (hp:PermR a1 e1 M N) (hv:¬ K (M.getD (a1 - 1) default) v < 0) (ha:0 < a1) (hm:a1 < m∧m ≤ e1) (h1:∀ p,a1 ≤ p→p < m→¬ K v (N.getD p default) < 0) (h2:∀ q,m ≤ q→q < e1→K v (N.getD q default) < 0):PI K a e L m e1 N:=by
 have hN:=h.swap hp;have hlow:=hN.low;have ho:N.getD (a1 - 1) default=M.getD (a1 - 1) default:=hp.out _ (.inl (by omega));refine ⟨by have:=h.lo; omega,hm.2,h.hi,h.len,hN.perm,fun q k0 k1 k2=>hK.negtr _ _ _ (h1 (m - 1) (by omega) (by omega)) (hK.asym _ _ (h2 q k1 k2)),fun N' k1 k2=>hN.close N' (k1.mono (by omega) (aR _)) (fun p q c1 c2 c3=>?_)⟩;by_cases e1':m ≤ p
 ·exact k2 p q e1' c2 c3
 ·rw [k1.out p (.inl (by omega))];refine hK.negtr _ _ _ (h1 p c1 (by omega)) ?_;by_cases e2:m ≤ q
  ·exact hK.asym _ _ (k1.all (p:=fun x=>K v x < 0) hm.2 hN.mlen h2 q e2 c3)
  ·rw [k1.out q (.inl (by omega))];exact hK.negtr _ _ _ hv (by rw [← ho]; exact hlow q ha (by omega) c3)
theorem bi.glue {m:Nat} (hK:Ord K) (h1:bi K a1 m N) (h2:bi K (m + 1) e1 N) (h3:∀ p,a1 ≤ p→p < m→¬ K (N.getD m default) (N.getD p default) < 0) (h4:∀ q,m < q→q < e1→¬ K (N.getD q default) (N.getD m default) < 0):bi K a1 e1 N:=fun p q k1 k2 k3=>by
 by_cases c1:q < m
 ·exact h1 p q k1 k2 c1
 ·by_cases c2:m < p
  ·exact h2 p q c2 k2 k3
  ·by_cases c3:p=m
   ·subst c3; exact h4 q (by omega) k3
   ·by_cases c4:q=m
    ·subst c4; exact h3 p k1 k2
    ·exact hK.negtr _ _ _ (h3 p k1 (by omega)) (h4 q (by omega) k3)
structure TwoS {α:Type} [Inhabited α] (K:α→α→Int) (a1 e1 m:Nat) (N:List α):Prop where
 mid:a1 ≤ m∧m < e1
 lt:∀ p,a1 ≤ p→p < m→¬ K (N.getD m default) (N.getD p default) < 0
 ge:∀ q,m < q→q < e1→¬ K (N.getD q default) (N.getD m default) < 0
theorem TwoS.left {m:Nat} {N':List α} (h:TwoS K a1 e1 m N) (hp:PermR a1 m N N') (hl:e1 ≤ N.length):TwoS K a1 e1 m N' :=
 have hm:=h.mid
 ⟨hm,by
  rw [hp.out m (.inr (aR _))];exact hp.all (p:=fun x=>¬ K (N.getD m default) x < 0) hm.1 (by omega) h.lt,fun q k1 k2=>by rw [hp.out m (.inr (aR _)),hp.out q (.inr (by omega))]; exact h.ge q k1 k2⟩
theorem TwoS.right {m:Nat} {N':List α} (h:TwoS K a1 e1 m N) (hp:PermR (m + 1) e1 N N') (hl:e1 ≤ N.length):TwoS K a1 e1 m N' :=
 have hm:=h.mid
 ⟨hm,fun p k1 k2=>by rw [hp.out m (.inl (by omega)),hp.out p (.inl (by omega))]; exact h.lt p k1 k2,by
  rw [hp.out m (.inl (by omega))];exact fun q k1 k2=>hp.all (p:=fun x=>¬ K x (N.getD m default) < 0) (by omega) hl (fun i c1 c2=>h.ge i (by omega) c2) q (by omega) k2⟩
theorem PI.left {m:Nat} (hK:Ord K) (h:PI K a e L a1 e1 M) (ht:TwoS K a1 e1 m M) (hp:PermR a1 m M N) (hs:bi K a1 m N):PI K a e L (m + 1) e1 N:=by
 have hm:=ht.mid;have hN:=h.swap (hp.mono (aR _) (by omega));have htN:=ht.left hp h.mlen;refine ⟨by have:=h.lo; omega,by omega,h.hi,h.len,hN.perm,fun q k0 k1 k2=>by rw [rc]; exact htN.ge q k1 k2,fun N' k1 k2=>hN.close N' (k1.mono (by omega) (aR _)) ?_⟩;have ht':=htN.right k1 hN.mlen;exact bi.glue hK (fun p q c1 c2 c3=>by rw [k1.out p (.inl (by omega)),k1.out q (.inl (by omega))]; exact hs p q c1 c2 c3) k2 ht'.lt ht'.ge
theorem PI.right {m:Nat} (hK:Ord K) (h:PI K a e L a1 e1 M) (ht:TwoS K a1 e1 m M) (hp:PermR (m + 1) e1 M N) (hs:bi K (m + 1) e1 N):PI K a e L a1 m N:=by
 have hm:=ht.mid;have hN:=h.swap (hp.mono (by omega) (aR _));have htN:=ht.right hp h.mlen;refine ⟨h.lo,hm.1,by have:=h.hi; omega,h.len,hN.perm,fun q k0 k1 k2=>hN.low q k0 k1 (by omega),fun N' k1 k2=>hN.close N' (k1.mono (aR _) (by omega)) ?_⟩;have ht':=htN.left k1 hN.mlen;exact bi.glue hK k2 (fun p q c1 c2 c3=>by rw [k1.out p (.inr (by omega)),k1.out q (.inr (by omega))]; exact hs p q c1 c2 c3) ht'.lt ht'.ge
theorem rn.sub {a e a' e':Nat} {M:List α} (h:rn K a e M) (ha:a'=a) (he:e' ≤ e):rn K a' e' M:=fun q k0 k1 k2=>by subst ha; exact h q k0 k1 (by omega)
end
end Go.Proofs.YtekdaafnjdlenaaGreat