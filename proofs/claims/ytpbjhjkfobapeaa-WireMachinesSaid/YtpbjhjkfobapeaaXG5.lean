/- Contracts of functions and plain laws, for all inputs that the theorems name. -/
import Derived.Test.YtpbjhjkfobapeaaXG4

set_option linter.unusedSimpArgs false
set_option linter.unusedVariables false
set_option maxHeartbeats 4000000
namespace Go.Proofs.Ytpbjhjkfobapeaa
open Go Go.Abs
open Nat (reduceEqDiff reduceAdd reduceLeDiff)
theorem nb{H:Hp}{b:Nat}{x y:List AV}:ah (ah H b x) b y=ah H b y:=by
 funext z;unfold ah;split<;>rfl
def gW(B:List UInt8):Nat->Bool->Nat->Nat->Nat->Nat×Nat×Bool
 |0,_,_,_,at_=>(0,at_,true)
 |k+1,f,u,a,at_=>if at_<B.length then(if (B.getD at_ default).toNat<128 then(a+(B.getD at_ default).toNat*u,at_+1,decide (f=false/\(B.getD at_ default).toNat=0)) else gW B k false (u*128) (a+(B.getD at_ default).toNat%128*u) (at_+1)) else(0,at_,true)
def br(B:List UInt8)(at_:Nat)(bad:Bool):Nat×Nat×Bool:=if bad=true then(0,at_,true) else gW B 4 true 1 0 at_
theorem sk(B:List UInt8):∀(k:Nat)(f:Bool)(u a at_:Nat),at_<=B.length->(gW B k f u a at_).2.1<=B.length/\(∀n rest,nk f k u a (B.drop at_)=some (n,rest)->(gW B k f u a at_).1=n/\(gW B k f u a at_).2.2=false/\B.drop (gW B k f u a at_).2.1=rest)/\
    (nk f k u a (B.drop at_)=none->(gW B k f u a at_).2.2=true)
 |0,f,u,a,at_,h=>⟨h,λn rest h=>by simp[nk] at h,λ_=>rfl⟩
 |k+1,f,u,a,at_,h=>by
  by_cases hl:at_<B.length
  ·have hd:=cP hl;simp only[gW,if_pos hl];rw[hd];simp only[nk];by_cases hc:(B.getD at_ default).toNat<128
   ·rw[if_pos hc,if_pos hc];refine⟨hl,λn rest hh=>?_,λhh=>?_⟩
    ·split at hh
     ·cases hh
     ·rename_i hz;cases hh;exact⟨rfl,bq hz,rfl⟩
    ·split at hh
     ·rename_i hz;exact bk hz
     ·cases hh
   ·rw[if_neg hc,if_neg hc];exact sk B k false (u*128) _ (at_+1) hl
  ·simp only[gW,if_neg hl];rw[ml (by omega)];exact⟨h,λn rest hh=>by simp[nk] at hh,λ_=>by simp⟩
theorem xc(B:List UInt8)(at_:Nat)(bad:Bool)(h:at_<=B.length):(br B at_ bad).2.1<=B.length/\(br B at_ bad).2.2=(ao (B.drop at_) bad).2.2/\((br B at_ bad).2.2=false->((br B at_ bad).1:Int)=(ao (B.drop at_) bad).1/\B.drop (br B at_ bad).2.1=(ao (B.drop at_) bad).2.1):=by
 unfold br ao;cases bad with
 |true=>exact⟨h,rfl,λh=>by simp at h⟩
 |false=>
  simp only[bm,if_false];obtain⟨h1,h2,h3⟩:=sk B 4 true 1 0 at_ h;refine⟨h1,?_⟩;unfold rq;cases hn:nk true 4 1 0 (B.drop at_) with
  |none=>
   rw[h3 hn];exact⟨rfl,λh=>by simp at h⟩
  |some x=>
   obtain⟨n,rest⟩:=x;obtain⟨g1,g2,g3⟩:=h2 n rest hn;rw[g1,g2,g3];exact⟨rfl,λ_=>⟨rfl,rfl⟩⟩
theorem vw(B:List UInt8):∀(k:Nat)(f:Bool)(u a at_:Nat),(gW B k f u a at_).1+u<=a+u*128^k
 |0,f,u,a,at_=>by simp[gW]
 |k+1,f,u,a,at_=>by
  have hp:u<=u*128^k:=Nat.le_mul_of_pos_right _ (Nat.pow_pos (by omega));have he:u*128^(k+1)=128*(u*128^k):=by rw[Nat.pow_succ,Nat.mul_comm (128^k),<-Nat.mul_assoc,Nat.mul_comm u 128,Nat.mul_assoc]
  simp only[gW];split
  ·split
   ·rename_i hc;have:(B.getD at_ default).toNat*u<=127*u:=gF _ (by omega);dsimp only;omega
   ·have h1:=vw B k false (u*128) (a+(B.getD at_ default).toNat%128*u) (at_+1);have h2:(B.getD at_ default).toNat%128*u<=127*u:=gF _ (by omega);have h3:u*128*128^k=128*(u*128^k):=by rw[Nat.mul_comm u 128,Nat.mul_assoc]
    omega
  ·dsimp only;omega
theorem dP(B:List UInt8)(at_:Nat)(bad:Bool):(br B at_ bad).1<268435456:=by
 unfold br;split
 ·simp
 ·have:=vw B 4 true 1 0 at_;simp at this;omega
theorem mF{α:Type}[Inhabited α]{l m:List α}(hl:l.length=m.length)(h:∀i,i<l.length->l.getD i default=m.getD i default):l=m:=
 List.ext_getElem hl (fun i h1 h2=>by
  have:=h i h1;simpa[List.getD,h1,h2] using this)
theorem jQ{α β:Type}[Inhabited α](l:List α)(f:α->List β){k:Nat}(h:k<l.length):(l.take (k+1)).flatMap f=(l.take k).flatMap f++f (l.getD k default)/\((l.take k).flatMap f).length+(f (l.getD k default)).length<=(l.flatMap f).length:=by
 have e:(l.take (k+1)).flatMap f=(l.take k).flatMap f++f (l.getD k default):=by
  rw[bT h,List.flatMap_append];simp
 refine⟨e,?_⟩;have:=d7 l f (k+1);rw[e,cm] at this;exact this
theorem lC(add x:Int):aL add [x]=dq (x+add).toNat:=by simp[aL]
def qu(l:List Int):List UInt8:=aL 0 [(l.length:Int)]++aL 1 l
theorem me{m:MachV}(hg:GoodM m):(jx m++m.first.flatMap (aL 1)).length+((m.out.flatMap fk).length+(m.symbols.flatMap eK).length)+((aL 0 [(m.steps.length:Int)]).length+(m.steps.flatMap (eh m.n.toNat)).length)<=1000000000:=by
 have:=jj hg;unfold kQ at this;simp only[cm] at this |-;omega
def AgI(B:List UInt8)(at_:Nat)(bad:Bool)(bs:List UInt8)(bad':Bool):Prop:=at_<=B.length/\bad=bad'/\(bad=false->B.drop at_=bs)
def AgQ{α:Type}(B:List UInt8)(q:α×Nat×Bool)(r:α×List UInt8×Bool):Prop:=AgI B q.2.1 q.2.2 r.2.1 r.2.2/\(q.2.2=false->q.1=r.1)
def aG(B:List UInt8)(at_:Nat)(bad:Bool):Int×Nat×Bool:=(((br B at_ bad).1:Int),(br B at_ bad).2)
theorem rY(B:List UInt8)(at_:Nat):br B at_ true=(0,at_,true):=by unfold br;rw[if_pos rfl]
theorem fR{B:List UInt8}{at_:Nat}{bad bad':Bool}{bs:List UInt8}(h:AgI B at_ bad bs bad'):AgQ B (aG B at_ bad) (ao bs bad'):=by
 obtain⟨h1,rfl,h3⟩:=h;cases bad with
 |true=>
  unfold aG;rw[rY,iu];exact⟨⟨h1,rfl,λh=>by cases h⟩,λh=>by cases h⟩
 |false=>
  obtain⟨g1,g2,g3⟩:=xc B at_ false h1;rw[h3 rfl] at g2 g3;exact⟨⟨g1,g2,λh=>(g3 h).2⟩,λh=>(g3 h).1⟩
def cA(B:List UInt8)(sub:Int):Nat->Nat->Bool->List Int×Nat×Bool
 |0,at_,bad=>([],at_,bad)
 |k+1,at_,bad=>if bad=true then([],at_,true) else(((aG B at_ false).1-sub)::(cA B sub k (aG B at_ false).2.1 (aG B at_ false).2.2).1,(cA B sub k (aG B at_ false).2.1 (aG B at_ false).2.2).2)
theorem ir(B:List UInt8)(sub:Int)(k at_:Nat):cA B sub k at_ true=([],at_,true):=by cases k<;>rfl
theorem jU(B:List UInt8)(sub:Int)(k at_:Nat):cA B sub (k+1) at_ false=(((aG B at_ false).1-sub)::(cA B sub k (aG B at_ false).2.1 (aG B at_ false).2.2).1,(cA B sub k (aG B at_ false).2.1 (aG B at_ false).2.2).2):=rfl
theorem pp{B:List UInt8}{sub:Int}:∀(k:Nat){at_:Nat}{bad bad':Bool}{bs:List UInt8},AgI B at_ bad bs bad'->AgQ B (cA B sub k at_ bad) (im sub k bs bad')
 |0,_,_,_,_,h=>⟨h,λ_=>rfl⟩
 |k+1,at_,bad,bad',bs,h=>by
  obtain⟨h1,rfl,h3⟩:=id h;cases bad with
  |true=>rw[ir,fJ];exact⟨⟨h1,rfl,λh=>by cases h⟩,λh=>by cases h⟩
  |false=>
   obtain⟨g1,g2⟩:=fR h;rw[jU,n7];have ih:=pp (sub:=sub) k g1;refine⟨ih.1,λhb=>?_⟩
   have hb1:(aG B at_ false).2.2=false:=by
    cases hz:(aG B at_ false).2.2 with
    |false=>rfl
    |true=>
     have hb:(cA B sub k (aG B at_ false).2.1 (aG B at_ false).2.2).2.2=false:=hb;rw[hz,ir] at hb;cases hb
   dsimp only;rw[g2 hb1,ih.2 hb]
def qI{α:Type}(f:Nat->Nat->Bool->α×Nat×Bool):Nat->Nat->Bool->List α×Nat×Bool
 |0,at_,bad=>([],at_,bad)
 |k+1,at_,bad=>if (qI f k at_ bad).2.2=true then qI f k at_ bad else((qI f k at_ bad).1++[(f k (qI f k at_ bad).2.1 false).1],(f k (qI f k at_ bad).2.1 false).2)
theorem gq{α:Type}(f:Nat->Nat->Bool->α×Nat×Bool){k at_:Nat}{bad:Bool}(h:(qI f k at_ bad).2.2=false):qI f (k+1) at_ bad=((qI f k at_ bad).1++[(f k (qI f k at_ bad).2.1 false).1],(f k (qI f k at_ bad).2.1 false).2):=by
 show(if _ then _ else _)=_;rw[if_neg (by rw[h];decide)]
theorem jN{α:Type}(f:Nat->Nat->Bool->α×Nat×Bool){k at_:Nat}{bad:Bool}(h:(qI f k at_ bad).2.2=true):∀d,qI f (k+d) at_ bad=qI f k at_ bad
 |0=>rfl
 |d+1=>by
  have ih:=jN f h d;show(if (qI f (k+d) at_ bad).2.2=true then qI f (k+d) at_ bad else _)=_;rw[ih,if_pos h]
theorem j8{α:Type}(f:Nat->Nat->Bool->α×Nat×Bool):∀(k at_:Nat)(bad:Bool),(qI f k at_ bad).1.length<=k/\((qI f k at_ bad).2.2=false->(qI f k at_ bad).1.length=k)
 |0,_,_=>⟨bj _,λ_=>rfl⟩
 |k+1,at_,bad=>by
  obtain⟨h1,h2⟩:=j8 f k at_ bad;cases hb:(qI f k at_ bad).2.2 with
  |true=>
   rw[jN f hb 1,hb];exact⟨by omega,λh=>by cases h⟩
  |false=>
   rw[gq f hb];have:=h2 hb;dsimp only;rw[cm,List.length_singleton];exact⟨by omega,λ_=>by omega⟩
theorem jC{α:Type}{g:Nat->List UInt8->Bool->α×List UInt8×Bool}(hb:∀i bs,(g i bs true).2.2=true):∀(k:Nat)(bs:List UInt8),(b0 g k bs true).2.2=true
 |0,_=>rfl
 |k+1,bs=>by rw[dK];dsimp only;rw[jC hb k bs];exact hb _ _
theorem qO{α:Type}{B:List UInt8}{f:Nat->Nat->Bool->α×Nat×Bool}{g:Nat->List UInt8->Bool->α×List UInt8×Bool}(hf:∀i at_ bs,AgI B at_ false bs false->AgQ B (f i at_ false) (g i bs false))(hb:∀i bs,(g i bs true).2.2=true):
    ∀(k:Nat){at_:Nat}{bad bad':Bool}{bs:List UInt8},AgI B at_ bad bs bad'->AgQ B (qI f k at_ bad) (b0 g k bs bad')
 |0,_,_,_,_,h=>⟨h,λ_=>rfl⟩
 |k+1,at_,bad,bad',bs,h=>by
  have ih:=qO hf hb k h;rw[dK];cases hq:(qI f k at_ bad).2.2 with
  |true=>
   rw[jN f hq 1];have h2:=ih.1.2.1;rw[hq] at h2;refine⟨⟨ih.1.1,?_,λh=>by rw[hq] at h;cases h⟩,λh=>by rw[hq] at h;cases h⟩;rw[hq];dsimp only;rw[<-h2];exact(hb _ _).symm
  |false=>
   rw[gq f hq];have h2:=ih.1;have h3:=ih.2 hq;unfold AgI at h2;obtain⟨a1,a2,a3⟩:=h2;rw[hq] at a2;have hs:=hf k (qI f k at_ bad).2.1 (b0 g k bs bad').2.1 ⟨a1,rfl,λ_=>a3 hq⟩;rw[<-a2];exact⟨hs.1,λh=>by dsimp only;rw[h3,hs.2 h]⟩
def o5(B:List UInt8)(at_:Nat)(bad:Bool):List Int×Nat×Bool:=cA B 1 (aG B at_ bad).1.toNat (aG B at_ bad).2.1 (aG B at_ bad).2.2
def fP(B:List UInt8)(n:Nat)(at_:Nat)(bad:Bool):List (List Int)×Nat×Bool:=qI (λ_=>o5 B) n at_ bad
def ia(B:List UInt8)(O:List (List (List Int)))(k p q:Nat)(at_:Nat)(bad:Bool):List Int×Nat×Bool:=cA B 0 (if p=q then 0 else((O.getD k default).getD p default).length) at_ bad
def iS(B:List UInt8)(O:List (List (List Int)))(n k p:Nat)(at_:Nat)(bad:Bool):List (List Int)×Nat×Bool:=qI (ia B O k p) n at_ bad
def mG(B:List UInt8)(O:List (List (List Int)))(n k:Nat)(at_:Nat)(bad:Bool):List (List (List Int))×Nat×Bool:=qI (iS B O n k) n at_ bad
theorem Cb{B:List UInt8}{at_:Nat}{bad bad':Bool}{bs:List UInt8}(h:AgI B at_ bad bs bad'):AgQ B (o5 B at_ bad) (mf bs bad'):=by
 unfold o5 mf fm;obtain⟨g1,g2⟩:=fR h;cases hz:(aG B at_ bad).2.2 with
 |true=>
  have g3:=g1.2.1;rw[hz] at g3;rw[ir,<-g3,fJ];exact⟨⟨g1.1,rfl,λh=>by cases h⟩,λh=>by cases h⟩
 |false=>
  rw[<-g2 hz];rw[hz] at g1;exact pp _ g1
theorem uW(bs:List UInt8):(mf bs true).2.2=true:=by unfold mf fm;rw[iu];dsimp only;rw[fJ]
theorem yJ{B:List UInt8}{n at_:Nat}{bad bad':Bool}{bs:List UInt8}(h:AgI B at_ bad bs bad'):AgQ B (fP B n at_ bad) (eu n bs bad'):=qO (λ_ _ _ h=>Cb h) (λ_ bs=>uW bs) n h
theorem wA(n:Nat)(bs:List UInt8):(eu n bs true).2.2=true:=jC (λ_ bs=>uW bs) n bs
theorem Ao{B:List UInt8}{O:List (List (List Int))}{k p q at_:Nat}{bad bad':Bool}{bs:List UInt8}(h:AgI B at_ bad bs bad'):AgQ B (ia B O k p q at_ bad) (eA O k p q bs bad'):=by
 unfold ia eA;by_cases e:p=q
 ·rw[if_pos e,if_pos e];exact⟨h,λ_=>rfl⟩
 ·rw[if_neg e,if_neg e];exact pp _ h
theorem nG(O:List (List (List Int)))(k p q:Nat)(bs:List UInt8):(eA O k p q bs true).2.2=true:=by
 unfold eA;split
 ·rfl
 ·rw[fJ]
theorem AK{B:List UInt8}{O:List (List (List Int))}{n k p at_:Nat}{bad bad':Bool}{bs:List UInt8}(h:AgI B at_ bad bs bad'):AgQ B (iS B O n k p at_ bad) (ie O n k p bs bad'):=qO (f:=ia B O k p) (g:=eA O k p) (λ_ _ _ h=>Ao h) (λ_ bs=>nG _ _ _ _ bs) n h
theorem BO{B:List UInt8}{O:List (List (List Int))}{n k at_:Nat}{bad bad':Bool}{bs:List UInt8}(h:AgI B at_ bad bs bad'):AgQ B (mG B O n k at_ bad) (jr O n k bs bad'):=qO (f:=iS B O n k) (g:=ie O n k) (λ_ _ _ h=>AK h) (λp bs=>jC (g:=eA O k p) (λ_ bs=>nG _ _ _ _ bs) _ bs) n h
theorem uZ(O:List (List (List Int)))(n k:Nat)(bs:List UInt8):(jr O n k bs true).2.2=true:=jC (g:=ie O n k) (λp bs=>jC (g:=eA O k p) (λ_ bs=>nG _ _ _ _ bs) _ bs) n bs
def qJ{α:Type}(f:Nat->Nat->Bool->α×Nat×Bool):Nat->Nat->Bool->List α×Nat×Bool
 |0,at_,bad=>([],at_,bad)
 |k+1,at_,bad=>((qJ f k at_ bad).1++[(f k (qJ f k at_ bad).2.1 (qJ f k at_ bad).2.2).1],(f k (qJ f k at_ bad).2.1 (qJ f k at_ bad).2.2).2)
theorem pi{α:Type}(f:Nat->Nat->Bool->α×Nat×Bool)(k at_:Nat)(bad:Bool):qJ f (k+1) at_ bad=((qJ f k at_ bad).1++[(f k (qJ f k at_ bad).2.1 (qJ f k at_ bad).2.2).1],(f k (qJ f k at_ bad).2.1 (qJ f k at_ bad).2.2).2):=rfl
theorem zf{α:Type}(f:Nat->Nat->Bool->α×Nat×Bool):∀(k at_:Nat)(bad:Bool),(qJ f k at_ bad).1.length=k
 |0,_,_=>rfl
 |k+1,at_,bad=>by rw[pi];dsimp only;rw[cm,zf f k];rfl
theorem A9{α:Type}{B:List UInt8}{f:Nat->Nat->Bool->α×Nat×Bool}{g:Nat->List UInt8->Bool->α×List UInt8×Bool}(hf:∀i at_ bad bs bad',AgI B at_ bad bs bad'->AgQ B (f i at_ bad) (g i bs bad'))(hk:∀i at_,(f i at_ true).2.2=true):
    ∀(k:Nat){at_:Nat}{bad bad':Bool}{bs:List UInt8},AgI B at_ bad bs bad'->AgQ B (qJ f k at_ bad) (b0 g k bs bad')
 |0,_,_,_,_,h=>⟨h,λ_=>rfl⟩
 |k+1,at_,bad,bad',bs,h=>by
  have ih:=A9 hf hk k h;have hs:=hf k _ _ _ _ ih.1;rw[dK,pi];refine⟨hs.1,λhb=>?_⟩
  have hq:(qJ f k at_ bad).2.2=false:=by
   cases hz:(qJ f k at_ bad).2.2 with
   |false=>rfl
   |true=>dsimp only at hb;rw[hz,hk] at hb;cases hb
  dsimp only at hb |-;rw[ih.2 hq,hs.2 hb]
def dT(B:List UInt8)(n q:Nat)(at_:Nat)(bad:Bool):Int×Nat×Bool:=if q<n then((aG B at_ bad).1-1,(aG B at_ bad).2) else(-1,at_,bad)
theorem od(B:List UInt8)(at_:Nat):aG B at_ true=(0,at_,true):=by unfold aG;rw[rY];rfl
theorem yW{B:List UInt8}{n q at_:Nat}{bad bad':Bool}{bs:List UInt8}(h:AgI B at_ bad bs bad'):AgQ B (dT B n q at_ bad) (fh n q bs bad'):=by
 unfold dT fh;by_cases e:q<n
 ·rw[if_pos e,if_pos e];obtain⟨g1,g2⟩:=fR h;exact⟨g1,λhb=>by dsimp only;rw[g2 hb]⟩
 ·rw[if_neg e,if_neg e];exact⟨h,λ_=>rfl⟩
theorem qn(B:List UInt8)(n q at_:Nat):(dT B n q at_ true).2.2=true:=by
 unfold dT;rw[od];split<;>rfl
def fC(B:List UInt8)(n at_:Nat)(bad:Bool):StepV×Nat×Bool:=
 let a:=aG B at_ bad
 let b:=aG B a.2.1 a.2.2
 let h:=qJ (dT B n) 5 b.2.1 b.2.2
 let t:=aG B h.2.1 h.2.2
 (⟨a.1,b.1,h.1.getD 0 default,h.1.getD 1 default,h.1.getD 2 default,h.1.getD 3 default,h.1.getD 4 default,t.1⟩,t.2)
theorem iG{B:List UInt8}{at_:Nat}{bad:Bool}(h:(aG B at_ bad).2.2=false):bad=false:=by
 cases bad with
 |false=>rfl
 |true=>rw[od] at h;cases h
theorem xi{B:List UInt8}{n:Nat}:∀(k:Nat){at_:Nat}{bad:Bool},(qJ (dT B n) k at_ bad).2.2=false->bad=false
 |0,_,_,h=>h
 |k+1,at_,bad,h=>by
  refine xi (B:=B) (n:=n) k (at_:=at_) ?_;cases hz:(qJ (dT B n) k at_ bad).2.2 with
  |false=>rfl
  |true=>rw[pi] at h;dsimp only at h;rw[hz,qn] at h;cases h
theorem Aq{B:List UInt8}{n at_:Nat}{bad bad':Bool}{bs:List UInt8}(h:AgI B at_ bad bs bad'):AgQ B (fC B n at_ bad) (f9 n bs bad'):=by
 obtain⟨a1,a2⟩:=fR h;obtain⟨b1,b2⟩:=fR a1;obtain⟨c1,c2⟩:=A9 (f:=dT B n) (g:=fh n) (λ_ _ _ _ _ h=>yW h) (λ_ _=>qn _ _ _ _) 5 b1;obtain⟨d1,d2⟩:=fR c1;unfold fC f9;refine⟨d1,λhb=>?_⟩;have hb:(aG B _ _).2.2=false:=hb;have e1:=iG hb;have e2:=xi 5 e1;have e3:=iG e2;dsimp only;rw[a2 e3,b2 e2,c2 e1,d2 hb]
def gb(B:List UInt8)(n:Nat):Nat->Nat->Bool->List StepV×Nat×Bool
 |0,at_,bad=>([],at_,bad)
 |k+1,at_,bad=>if bad=true then([],at_,true) else((fC B n at_ false).1::(gb B n k (fC B n at_ false).2.1 (fC B n at_ false).2.2).1,(gb B n k (fC B n at_ false).2.1 (fC B n at_ false).2.2).2)
theorem iC(B:List UInt8)(n k at_:Nat):gb B n k at_ true=([],at_,true):=by cases k<;>rfl
theorem og(B:List UInt8)(n k at_:Nat):gb B n (k+1) at_ false=((fC B n at_ false).1::(gb B n k (fC B n at_ false).2.1 (fC B n at_ false).2.2).1,(gb B n k (fC B n at_ false).2.1 (fC B n at_ false).2.2).2):=rfl
theorem t8{B:List UInt8}{n:Nat}:∀(k:Nat){at_:Nat}{bad bad':Bool}{bs:List UInt8},AgI B at_ bad bs bad'->AgQ B (gb B n k at_ bad) (fX n k bs bad')
 |0,_,_,_,_,h=>⟨h,λ_=>rfl⟩
 |k+1,at_,bad,bad',bs,h=>by
  obtain⟨h1,rfl,h3⟩:=id h;cases bad with
  |true=>rw[iC,jY];exact⟨⟨h1,rfl,λh=>by cases h⟩,λh=>by cases h⟩
  |false=>
   obtain⟨g1,g2⟩:=Aq (n:=n) h;rw[og,kV];have ih:=t8 (n:=n) k g1;refine⟨ih.1,λhb=>?_⟩
   have hb1:(fC B n at_ false).2.2=false:=by
    cases hz:(fC B n at_ false).2.2 with
    |false=>rfl
    |true=>
     have hb:(gb B n k (fC B n at_ false).2.1 (fC B n at_ false).2.2).2.2=false:=hb;rw[hz,iC] at hb;cases hb
   dsimp only;rw[g2 hb1,ih.2 hb]
theorem qg{α:Type}(f:Nat->Nat->Bool->α×Nat×Bool)(k at_:Nat):qI f k at_ true=([],at_,true):=by
 have:=jN f (k:=0) (at_:=at_) (bad:=true) rfl k;rw[eF] at this;exact this
def jn(B:List UInt8)(at_:Nat):(Int×Int×Int×Int)×Nat×Bool:=
 let a:=aG B at_ false
 let b:=aG B a.2.1 a.2.2
 let c:=aG B b.2.1 b.2.2
 let d:=aG B c.2.1 c.2.2
 ((a.1,b.1,c.1,d.1),d.2.1,d.2.2 || decide (5<a.1\/6<b.1\/8<c.1))
def uh(B:List UInt8)(x:(Int×Int×Int×Int)×Nat×Bool):List (List Int)×Nat×Bool:=qI (λ_=>cA B 1 x.1.2.2.1.toNat) x.1.1.toNat x.2.1 x.2.2
def fF(B:List UInt8)(n r:Int)(at_:Nat)(bad:Bool):List (List (List Int))×Nat×Bool:=qI (λ_=>fP B n.toNat) (r+1).toNat at_ bad
def lK(B:List UInt8)(n r:Int)(O:List (List (List Int)))(at_:Nat)(bad:Bool):List (List (List (List Int)))×Nat×Bool:=qI (mG B O n.toNat) r.toNat at_ bad
def ng(B:List UInt8)(n:Int)(at_:Nat)(bad:Bool):List StepV×Nat×Bool:=gb B n.toNat (aG B at_ bad).1.toNat (aG B at_ bad).2.1 (aG B at_ bad).2.2
def mN(B:List UInt8)(n r i o:Int)(F:List (List Int))(O:List (List (List Int))×Nat×Bool):MachV×Nat×Bool:=
 if O.2.2=true then(⟨n,r,i,o,F,[],[],O.1⟩,O.2) else
  let S:=lK B n r O.1 O.2.1 O.2.2
  let T:=ng B n S.2.1 S.2.2
  (⟨n,r,i,o,F,S.1,T.1,O.1⟩,T.2)
def ur(B:List UInt8)(at_:Nat):MachV×Nat×Bool:=
 let x:=jn B at_
 let F:=uh B x
 mN B x.1.1 x.1.2.1 x.1.2.2.1 x.1.2.2.2 F.1 (fF B x.1.1 x.1.2.1 F.2.1 F.2.2)
theorem Cg(n:Int)(bs:List UInt8):(pT n bs true).2.2=true:=by unfold pT;rw[iu];dsimp only;rw[jY]
theorem Bs{B:List UInt8}{n i:Int}{at_:Nat}{bad bad':Bool}{bs:List UInt8}(h:AgI B at_ bad bs bad'):AgQ B (qI (λ_=>cA B 1 i.toNat) n.toNat at_ bad) (pF n i bs bad'):=
 qO (f:=λ_=>cA B 1 i.toNat) (g:=λ_=>fm i) (λ_ _ _ h=>pp _ h) (λ_ bs=>by unfold fm;rw[fJ]) _ h
theorem Ax{B:List UInt8}{n r:Int}{at_:Nat}{bad bad':Bool}{bs:List UInt8}(h:AgI B at_ bad bs bad'):AgQ B (fF B n r at_ bad) (ptO n r bs bad'):=
 qO (f:=λ_=>fP B n.toNat) (g:=λ_=>eu n.toNat) (λ_ _ _ h=>yJ h) (λ_ bs=>wA _ bs) _ h
theorem z9{B:List UInt8}{n r:Int}{O:List (List (List Int))}{at_:Nat}{bad bad':Bool}{bs:List UInt8}(h:AgI B at_ bad bs bad'):AgQ B (lK B n r O at_ bad) (pS n r O bs bad'):=
 qO (f:=mG B O n.toNat) (g:=jr O n.toNat) (λ_ _ _ h=>BO h) (λ_ bs=>uZ _ _ _ bs) _ h
theorem AQ{B:List UInt8}{n:Int}{at_:Nat}{bad bad':Bool}{bs:List UInt8}(h:AgI B at_ bad bs bad'):AgQ B (ng B n at_ bad) (pT n bs bad'):=by
 unfold ng pT;obtain⟨g1,g2⟩:=fR h;cases hz:(aG B at_ bad).2.2 with
 |true=>
  have g3:=g1.2.1;rw[hz] at g3;rw[iC,<-g3,jY];exact⟨⟨g1.1,rfl,λh=>by cases h⟩,λh=>by cases h⟩
 |false=>
  rw[<-g2 hz];rw[hz] at g1;exact t8 _ g1
theorem Au{B:List UInt8}{n r i o:Int}{F:List (List Int)}{f:List (List Int)×List UInt8×Bool}{at_:Nat}{bad:Bool}(h:AgI B at_ bad f.2.1 f.2.2)(hF:bad=false->F=f.1):
    (mN B n r i o F (fF B n r at_ bad)).2.2=(pT n (pS n r (ptO n r f.2.1 f.2.2).1 (ptO n r f.2.1 f.2.2).2.1 (ptO n r f.2.1 f.2.2).2.2).2.1 (pS n r (ptO n r f.2.1 f.2.2).1 (ptO n r f.2.1 f.2.2).2.1 (ptO n r f.2.1 f.2.2).2.2).2.2).2.2/\
    ((mN B n r i o F (fF B n r at_ bad)).2.2=false->(mN B n r i o F (fF B n r at_ bad)).1=⟨n,r,i,o,f.1,(pS n r (ptO n r f.2.1 f.2.2).1 (ptO n r f.2.1 f.2.2).2.1 (ptO n r f.2.1 f.2.2).2.2).1,(pT n (pS n r (ptO n r f.2.1 f.2.2).1 (ptO n r f.2.1 f.2.2).2.1 (ptO n r f.2.1 f.2.2).2.2).2.1 (pS n r (ptO n r f.2.1 f.2.2).1 (ptO n r f.2.1 f.2.2).2.1 (ptO n r f.2.1 f.2.2).2.2).2.2).1,(ptO n r f.2.1 f.2.2).1⟩):=by
 obtain⟨o1,o2⟩:=Ax (n:=n) (r:=r) h
 have hbo:(fF B n r at_ bad).2.2=false->bad=false:=λhq=>by
  cases bad with
  |false=>rfl
  |true=>unfold fF at hq;rw[qg] at hq;cases hq
 generalize fF B n r at_ bad=O at *;generalize ptO n r f.2.1 f.2.2=P at *;unfold mN;cases hO:O.2.2 with
 |true=>
  rw[if_pos rfl];have h2:=o1.2.1;rw[hO] at h2;rw[<-h2];have hS:(pS n r P.1 P.2.1 true).2.2=true:=jC (g:=jr P.1 n.toNat) (λ_ bs=>uZ _ _ _ bs) _ _;rw[hS,Cg];exact⟨hO,λh=>by dsimp only at h;rw[hO] at h;cases h⟩
 |false=>
  rw[if_neg (by decide)];have e:=o2 hO;rw[hO] at o1;obtain⟨s1,s2⟩:=z9 (n:=n) (r:=r) (O:=O.1) o1;rw[e] at s1 s2;obtain⟨t1,t2⟩:=AQ (n:=n) s1;dsimp only;rw[e];refine⟨t1.2.1,λhb=>?_⟩
  have hs:(lK B n r P.1 O.2.1 false).2.2=false:=by
   cases hz:(lK B n r P.1 O.2.1 false).2.2 with
   |false=>rfl
   |true=>unfold ng at hb;rw[hz,od] at hb;dsimp only at hb;rw[iC] at hb;cases hb
  rw[s2 hs,t2 hb,hF (hbo hO)]
theorem A5{B:List UInt8}{at_:Nat}(h:at_<=B.length):(ur B at_).2.2=(ju (B.drop at_)).2.2/\((ur B at_).2.2=false->(ur B at_).1=(ju (B.drop at_)).1):=by
 obtain⟨a1,a2⟩:=fR (B:=B) (at_:=at_) (bad:=false) (bs:=B.drop at_) ⟨h,rfl,λ_=>rfl⟩;obtain⟨b1,b2⟩:=fR a1;obtain⟨c1,c2⟩:=fR b1;obtain⟨d1,d2⟩:=fR c1;unfold ur ju jn uh;dsimp only;have kd:=λh=>iG (B:=B) (at_:=(aG B (aG B (aG B at_ false).2.1 (aG B at_ false).2.2).2.1 (aG B (aG B at_ false).2.1 (aG B at_ false).2.2).2.2).2.1) (bad:=(aG B (aG B (aG B at_ false).2.1 (aG B at_ false).2.2).2.1 (aG B (aG B at_ false).2.1 (aG B at_ false).2.2).2.2).2.2) h;have kc:=λh=>iG (B:=B) (at_:=(aG B (aG B at_ false).2.1 (aG B at_ false).2.2).2.1) (bad:=(aG B (aG B at_ false).2.1 (aG B at_ false).2.2).2.2) h;have kb:=λh=>iG (B:=B) (at_:=(aG B at_ false).2.1) (bad:=(aG B at_ false).2.2) h;generalize aG B (aG B (aG B (aG B at_ false).2.1 (aG B at_ false).2.2).2.1 (aG B (aG B at_ false).2.1 (aG B at_ false).2.2).2.2).2.1 (aG B (aG B (aG B at_ false).2.1 (aG B at_ false).2.2).2.1 (aG B (aG B at_ false).2.1 (aG B at_ false).2.2).2.2).2.2=d at *;generalize aG B (aG B (aG B at_ false).2.1 (aG B at_ false).2.2).2.1 (aG B (aG B at_ false).2.1 (aG B at_ false).2.2).2.2=c at *;generalize aG B (aG B at_ false).2.1 (aG B at_ false).2.2=b at *;generalize aG B at_ false=a at *;generalize ao (ao (ao (ao (B.drop at_) false).2.1 (ao (B.drop at_) false).2.2).2.1 (ao (ao (B.drop at_) false).2.1 (ao (B.drop at_) false).2.2).2.2).2.1 (ao (ao (ao (B.drop at_) false).2.1 (ao (B.drop at_) false).2.2).2.1 (ao (ao (B.drop at_) false).2.1 (ao (B.drop at_) false).2.2).2.2).2.2=d' at *
 generalize ao (ao (ao (B.drop at_) false).2.1 (ao (B.drop at_) false).2.2).2.1 (ao (ao (B.drop at_) false).2.1 (ao (B.drop at_) false).2.2).2.2=c' at *;generalize ao (ao (B.drop at_) false).2.1 (ao (B.drop at_) false).2.2=b' at *;generalize ao (B.drop at_) false=a' at *;have hdd:=d1.2.1;cases hd:d.2.2 with
 |true=>
  rw[hd] at hdd;rw[if_pos (.inl hdd.symm),Bool.true_or];dsimp only;unfold fF mN;rw[qg,qg,if_pos rfl];exact⟨rfl,λh=>by cases h⟩
 |false=>
  rw[hd] at hdd;have e4:=d2 hd;have hc:=kd hd;have e3:=c2 hc;have hb:=kc hc;have e2:=b2 hb;have e1:=a2 (kb hb);rw[Bool.false_or,e1,e2,e3,e4];by_cases hbig:5<a'.1\/6<b'.1\/8<c'.1
  ·rw[if_pos (.inr hbig),bk hbig];dsimp only;unfold fF mN;rw[qg,qg,if_pos rfl];exact⟨rfl,λh=>by cases h⟩
  ·rw[if_neg (by rw[<-hdd];rintro(h|h);exact absurd h (by decide);exact hbig h),bq hbig];rw[hd] at d1;obtain⟨f1,f2⟩:=Bs (n:=a'.1) (i:=c'.1) d1;exact Au (f:=pF a'.1 c'.1 d'.2.1 d'.2.2) f1 f2
def rdC(B:List UInt8)(at_:Nat)(bad:Bool):List AV:=[aW B,.int .i64 (at_:Int),.bool bad]
theorem da{B:List UInt8}{at_:Nat}{bad:Bool}(h:at_<=B.length):(br B at_ bad).2.1<=B.length:=(xc B at_ bad h).1
theorem kL{B:List UInt8}{sub:Int}:∀(k:Nat){at_:Nat}{bad:Bool},at_<=B.length->(cA B sub k at_ bad).2.1<=B.length
 |0,_,_,h=>h
 |k+1,at_,bad,h=>by
  cases bad with
  |true=>rw[ir];exact h
  |false=>rw[jU];exact kL k (da h)
theorem sa{B:List UInt8}{sub:Int}:∀(k at_:Nat)(bad:Bool),(cA B sub k at_ bad).1.length<=k
 |0,_,_=>bj _
 |k+1,at_,bad=>by
  cases bad with
  |true=>rw[ir];exact bZ _
  |false=>rw[jU];have:=sa (B:=B) (sub:=sub) k (aG B at_ false).2.1 (aG B at_ false).2.2;dsimp only;rw[gI];omega
structure QH(rb:Nat)(rc:List AV)(s:AV)(cs:List AV)(lo:Nat)(H0 H:Hp)(nx:Nat):Prop where
 rd:H rb=some rc
 row:Row H 1 s cs
 rlt:∀x,aY s=some x->lo<=x/\x<nx
 lt:lo<=nx
 fr:∀i,i<lo->i≠rb->H i=H0 i
theorem QH.step{rb:Nat}{rc rc':List AV}{s:AV}{cs:List AV}{lo:Nat}{H0 H H':Hp}{nx nx':Nat}(h:QH rb rc s cs lo H0 H nx)(hrb:rb<lo)(hrd:H' rb=some rc')(hfr:∀i,i<nx->i≠rb->H' i=H i)(hle:nx<=nx'):QH rb rc' s cs lo H0 H' nx':=by
 obtain⟨g1,g2,g3,g4,g5⟩:=h;refine⟨hrd,g2.same λb hb=>?_,λx hx=>?_,by omega,λi hi hr=>by rw[hfr i (by omega) hr,g5 i hi hr]⟩
 ·have:=g3 b hb;exact hfr b (by omega) (by omega)
 ·have:=g3 x hx;omega
theorem QH.push{rb:Nat}{rc:List AV}{s:AV}{cs:List AV}{lo:Nat}{H0 H:Hp}{nx:Nat}(h:QH rb rc s cs lo H0 H nx)(hrb:rb<lo){v v':AV}(hv:∀b,aY v=some b->lo<=b/\b<nx/\aY s≠some b)(hs:∀Hf:Hp,(∀b,aY v=some b->Hf b=H b)->Snap Hf v v')
    {s':AV} {H3:Hp} {nx3:Nat} (hrow:Row H3 1 s' (cs++[v])) (j1:nx+1<=nx3) (j3:∀i,i<nx+1->aY s≠some i->H3 i=ah H nx [v] i) (j4:∀b,aY s'=some b->aY s=some b\/b=nx+1/\nx3=nx+1+1):
    ∃Hf H'',Fz Hf H3 H''/\QH rb rc s' (cs++[v']) lo H0 H'' nx3:=by
 obtain⟨g1,g2,g3,g4,g5⟩:=h
 have hlow:∀i,i<lo->H3 i=H i:=λi hi=>by
  rw[j3 i (by omega) (λh=>by have:=g3 i h;omega),ac (by omega)]
 have hsB:∀b,aY s'=some b->lo<=b/\b<nx3/\aY v≠some b:=λb hb=>by
  rcases j4 b hb with h|h
  ·have:=g3 b h;exact⟨by omega,by omega,λhv'=>(hv b hv').2.2 h⟩
  ·exact⟨by omega,by omega,λhv'=>by have:=hv b hv';omega⟩
 obtain ⟨Hf,H'',f1,f2,f3⟩:=lq (x':=v') hrow (fun b hb h=>(hsB b h).2.2 hb) (fun Hf hf=>hs Hf fun b hb=>by
  have:=hv b hb;rw[hf b hb,j3 b (by omega) this.2.2,ac (by omega)])
 have hv2:∀x,x<lo->aY v≠some x/\aY s'≠some x:=λx hx=>⟨λh=>by have:=hv x h;omega,λh=>by have:=hsB x h;omega⟩
 refine⟨Hf,H'',f1,?_,f2,λb hb=>⟨(hsB b hb).1,(hsB b hb).2.1⟩,by omega,λi hi hr=>?_⟩
 ·rw[f3 rb (hv2 rb hrb).1 (hv2 rb hrb).2,hlow rb hrb,g1]
 ·rw[f3 i (hv2 i hi).1 (hv2 i hi).2,hlow i hi,g5 i hi hr]
theorem jf{α:Type}{B:List UInt8}{f:Nat->Nat->Bool->α×Nat×Bool}(hf:∀i at_,at_<=B.length->(f i at_ false).2.1<=B.length):∀(k:Nat){at_:Nat}{bad:Bool},at_<=B.length->(qI f k at_ bad).2.1<=B.length
 |0,_,_,h=>h
 |k+1,at_,bad,h=>by
  have ih:=jf hf k (bad:=bad) h;cases hq:(qI f k at_ bad).2.2 with
  |true=>rw[jN f hq 1];exact ih
  |false=>rw[gq f hq];exact hf _ _ ih
theorem n6{α:Type}(f:Nat->Nat->Bool->α×Nat×Bool){k n at_:Nat}{bad:Bool}(hk:k<=n)(h:¬(k<n/\(qI f k at_ bad).2.2=false)):qI f n at_ bad=qI f k at_ bad:=by
 by_cases e:k=n
 ·rw[e]
 ·have hb:(qI f k at_ bad).2.2=true:=by
    cases hz:(qI f k at_ bad).2.2 with
    |true=>rfl
    |false=>exact absurd ⟨by omega,hz⟩ h
  have:=jN f hb (n-k)
  rwa [show k+(n-k)=n by omega] at this
theorem xk{B:List UInt8}{at_:Nat}{bad:Bool}(h:at_<=B.length):(o5 B at_ bad).2.1<=B.length:=kL _ (da h)
theorem rK{B:List UInt8}{n at_:Nat}{bad:Bool}(h:at_<=B.length):(fP B n at_ bad).2.1<=B.length:=jf (λ_ _ h=>xk h) n h
theorem uO{B:List UInt8}{O:List (List (List Int))}{k p q at_:Nat}{bad:Bool}(h:at_<=B.length):(ia B O k p q at_ bad).2.1<=B.length:=kL _ h
theorem uj{B:List UInt8}{O:List (List (List Int))}{n k p at_:Nat}{bad:Bool}(h:at_<=B.length):(iS B O n k p at_ bad).2.1<=B.length:=jf (f:=ia B O k p) (λ_ _ h=>uO h) n h
theorem xw{B:List UInt8}{O:List (List (List Int))}{n k at_:Nat}{bad:Bool}(h:at_<=B.length):(mG B O n k at_ bad).2.1<=B.length:=jf (f:=iS B O n k) (λ_ _ h=>uj h) n h
structure QR(rb:Nat)(rc:List AV)(s:AV)(cs:List AV)(lo:Nat)(H0 H:Hp)(nx:Nat):Prop where
 rd:H rb=some rc
 row:Row H 8 s cs
 rlt:∀x,aY s=some x->lo<=x/\x<nx
 lt:lo<=nx
 fr:∀i,i<lo->i≠rb->H i=H0 i
theorem QR.step{rb:Nat}{rc rc':List AV}{s:AV}{cs:List AV}{lo:Nat}{H0 H H':Hp}{nx nx':Nat}(h:QR rb rc s cs lo H0 H nx)(hrb:rb<lo)(hrd:H' rb=some rc')(hfr:∀i,i<nx->i≠rb->H' i=H i)(hle:nx<=nx'):QR rb rc' s cs lo H0 H' nx':=by
 obtain⟨g1,g2,g3,g4,g5⟩:=h;refine⟨hrd,g2.same λb hb=>?_,λx hx=>?_,by omega,λi hi hr=>by rw[hfr i (by omega) hr,g5 i hi hr]⟩
 ·have:=g3 b hb;exact hfr b (by omega) (by omega)
 ·have:=g3 x hx;omega
structure QX(rb:Nat)(rc:List AV)(s:AV)(cs:List AV)(b:Nat)(es:List AV)(lo:Nat)(H0 H:Hp)(nx:Nat):Prop where
 ph:QR rb rc s cs lo H0 H nx
 bx:H b=some es
 b1:lo<=b/\b<nx
 b2:aY s≠some b
theorem QX.step{rb:Nat}{rc rc':List AV}{s:AV}{cs es:List AV}{b lo:Nat}{H0 H H':Hp}{nx nx':Nat}(h:QX rb rc s cs b es lo H0 H nx)(hrb:rb<lo)(hrd:H' rb=some rc')(hfr:∀i,i<nx->i≠rb->H' i=H i)(hle:nx<=nx'):QX rb rc' s cs b es lo H0 H' nx':=by
 obtain⟨g1,g2,g3,g4⟩:=h;exact⟨g1.step hrb hrd hfr hle,by rw[hfr b g3.2 (by omega),g2],⟨g3.1,by omega⟩,g4⟩
theorem QX.set{rb:Nat}{rc:List AV}{s:AV}{cs es es':List AV}{b lo:Nat}{H0 H:Hp}{nx:Nat}(h:QX rb rc s cs b es lo H0 H nx)(hrb:rb<lo):QX rb rc s cs b es' lo H0 (ah H b es') nx:=by
 obtain⟨⟨g1,g3,g4,g5,g6⟩,g7,g8,g9⟩:=h;refine⟨⟨by rw[ac (by omega),g1],g3.same λy hy=>ac (λh=>g9 (h▸hy)),g4,g5,λx hx hr=>by rw[ac (by omega),g6 x hx hr]⟩,ag,g8,g9⟩
theorem Bq{α:Type}{B:List UInt8}{f:Nat->Nat->Bool->α×Nat×Bool}(hf:∀i at_ bad,at_<=B.length->(f i at_ bad).2.1<=B.length):∀(k:Nat){at_:Nat}{bad:Bool},at_<=B.length->(qJ f k at_ bad).2.1<=B.length
 |0,_,_,h=>h
 |k+1,at_,bad,h=>hf _ _ _ (Bq hf k h)
theorem xM{B:List UInt8}{n q at_:Nat}{bad:Bool}(h:at_<=B.length):(dT B n q at_ bad).2.1<=B.length:=by
 unfold dT;split
 ·exact da h
 ·exact h
structure QP(rb xb:Nat)(rc:List AV)(mk:AV->List AV)(s:AV)(cs:List AV)(lo:Nat)(H0 H:Hp)(nx:Nat):Prop where
 rd:H rb=some rc
 mc:H xb=some (mk s)
 row:Row H 1 s cs
 rlt:∀x,aY s=some x->lo<=x/\x<nx
 lt:lo<=nx
 fr:∀i,i<lo->i≠rb->i≠xb->H i=H0 i
theorem QP.step{rb xb:Nat}{rc rc':List AV}{mk:AV->List AV}{s:AV}{cs:List AV}{lo:Nat}{H0 H H':Hp}{nx nx':Nat}(h:QP rb xb rc mk s cs lo H0 H nx)(hrb:rb<lo)(hxb:xb<lo)(hne:xb≠rb)(hrd:H' rb=some rc')(hfr:∀i,i<nx->i≠rb->H' i=H i)(hle:nx<=nx'):QP rb xb rc' mk s cs lo H0 H' nx':=by
 obtain⟨g1,g2,g3,g4,g5,g6⟩:=h;refine⟨hrd,by rw[hfr xb (by omega) hne,g2],g3.same λb hb=>?_,λx hx=>?_,by omega,λi hi hr hx=>by rw[hfr i (by omega) hr,g6 i hi hr hx]⟩
 ·have:=g4 b hb;exact hfr b (by omega) (by omega)
 ·have:=g4 x hx;omega
theorem QP.push{rb xb:Nat}{rc:List AV}{mk:AV->List AV}{s:AV}{cs:List AV}{lo:Nat}{H0 H:Hp}{nx:Nat}(h:QP rb xb rc mk s cs lo H0 H nx)(hrb:rb<lo)(hxb:xb<lo)(hne:xb≠rb){v v':AV}(hv:∀b,aY v=some b->lo<=b/\b<nx/\aY s≠some b)(hs:∀Hf:Hp,(∀b,aY v=some b->Hf b=H b)->Snap Hf v v')
    {s':AV} {H3:Hp} {nx3:Nat} (hrow:Row H3 1 s' (cs++[v])) (j1:nx+1<=nx3) (j3:∀i,i<nx+1->aY s≠some i->H3 i=ah H nx [v] i) (j4:∀b,aY s'=some b->aY s=some b\/b=nx+1/\nx3=nx+1+1):
    H3 xb=some (mk s)/\∃Hf H'',Fz Hf (ah H3 xb (mk s')) H''/\QP rb xb rc mk s' (cs++[v']) lo H0 H'' nx3:=by
 obtain⟨g1,g2,g3,g4,g5,g6⟩:=h
 have hlow:∀i,i<lo->H3 i=H i:=λi hi=>by
  rw[j3 i (by omega) (λh=>by have:=g4 i h;omega),ac (by omega)]
 have hsB:∀b,aY s'=some b->lo<=b/\b<nx3/\aY v≠some b:=λb hb=>by
  rcases j4 b hb with h|h
  ·have:=g4 b h;exact⟨by omega,by omega,λhv'=>(hv b hv').2.2 h⟩
  ·exact⟨by omega,by omega,λhv'=>by have:=hv b hv';omega⟩
 refine⟨by rw[hlow xb hxb,g2],?_⟩
 have hrow2:Row (ah H3 xb (mk s')) 1 s' (cs++[v]):=hrow.same λb hb=>by
  have:=hsB b hb;rw[ac (by omega)]
 obtain ⟨Hf,H'',f1,f2,f3⟩:=lq (x':=v') hrow2 (fun b hb h=>(hsB b h).2.2 hb) (fun Hf hf=>hs Hf fun b hb=>by
  have:=hv b hb;rw[hf b hb,ac (by omega),j3 b (by omega) this.2.2,ac (by omega)])
 have hv2:∀x,x<lo->aY v≠some x/\aY s'≠some x:=λx hx=>⟨λh=>by have:=hv x h;omega,λh=>by have:=hsB x h;omega⟩
 refine⟨Hf,H'',f1,?_,?_,f2,λb hb=>⟨(hsB b hb).1,(hsB b hb).2.1⟩,by omega,λx hx hr hxx=>?_⟩
 ·rw[f3 rb (hv2 rb hrb).1 (hv2 rb hrb).2,ac (by omega),hlow rb hrb,g1]
 ·rw[f3 xb (hv2 xb hxb).1 (hv2 xb hxb).2,ag]
 ·rw[f3 x (hv2 x hx).1 (hv2 x hx).2,ac hxx,hlow x hx,g6 x hx hr hxx]
theorem pj{H:Hp}{xb sz:Nat}{c1 c2 cs:List AV}{s v:AV}(hx:H xb=some c1)(hrow:Row H sz s cs)(hne:aY s≠some xb)(hs:∀Hf:Hp,Row Hf sz s cs->Snap Hf s v)(hct:∀Hf:Hp,Snap Hf s v->av Hf c1 c2):
    ∃Hf H'',Fz Hf H H''/\H'' xb=some c2/\∀i,i≠xb->aY s≠some i->H'' i=H i:=by
 have hB:decide (aY s=some xb)=false:=by rw[decide_eq_false_iff_not];exact hne
 refine⟨_,_,Fz.put (B:=λy=>decide (aY s=some y)) hB hx (hct _ (hs _ (vq hrow λb hb=>by simpa using hb))),ag,λi h1 h2=>?_⟩;rw[ac h1,kZ (by simpa using h2)]
theorem vP{α:Type}(f:Nat->Nat->Bool->α×Nat×Bool):∀(k at_:Nat)(bad:Bool),(qI f k at_ bad).2.2=false->∀x∈(qI f k at_ bad).1,∃i p,(f i p false).1=x/\(f i p false).2.2=false
 |0,_,_,_,x,h=>by cases h
 |k+1,at_,bad,hb,x,h=>by
  cases hq:(qI f k at_ bad).2.2 with
  |true=>rw[jN f hq 1,hq] at hb;cases hb
  |false=>
   rw[gq f hq] at hb h;rcases th.1 h with h|h
   ·exact vP f k at_ bad hq x h
   ·exact⟨k,_,(qZ.1 h).symm,hb⟩
theorem um{B:List UInt8}{n r:Int}{at_:Nat}{bad:Bool}(hb:(fF B n r at_ bad).2.2=false):(fF B n r at_ bad).1.length=(r+1).toNat/\(∀x∈(fF B n r at_ bad).1,x.length=n.toNat/\∀y∈x,y.length<=300000000):=by
 unfold fF at *;refine⟨(j8 _ _ _ _).2 hb,λx hx=>?_⟩;obtain⟨i,p,e,h2⟩:=vP _ _ _ _ hb x hx;unfold fP at e h2;subst e;refine⟨(j8 _ _ _ _).2 h2,λy hy=>?_⟩;obtain⟨j,p2,e2,h3⟩:=vP _ _ _ _ h2 y hy;subst e2;unfold o5;have h4:=sa (B:=B) (sub:=1) (aG B p2 false).1.toNat (aG B p2 false).2.1 (aG B p2 false).2.2;have h5:=dP B p2 false;have h6:(aG B p2 false).1.toNat=(br B p2 false).1:=kK _;omega
theorem yX{B:List UInt8}{n r:Int}{at_:Nat}{bad:Bool}(h:at_<=B.length):(fF B n r at_ bad).2.1<=B.length:=jf (f:=λ_=>fP B n.toNat) (λ_ _ h=>rK h) _ h
theorem y6{B:List UInt8}{n r:Int}{O:List (List (List Int))}{at_:Nat}{bad:Bool}(h:at_<=B.length):(lK B n r O at_ bad).2.1<=B.length:=jf (f:=mG B O n.toNat) (λ_ _ h=>xw h) _ h
theorem AA{B:List UInt8}{at_:Nat}(h:at_<=B.length):(jn B at_).2.1<=B.length:=da (da (da (da h)))
theorem zY{B:List UInt8}{x:(Int×Int×Int×Int)×Nat×Bool}(h:x.2.1<=B.length):(uh B x).2.1<=B.length:=jf (f:=λ_=>cA B 1 x.1.2.2.1.toNat) (λ_ _ h=>kL _ h) _ h
theorem Aw(B:List UInt8)(at_:Nat):(0<=(jn B at_).1.1/\(jn B at_).1.1<=300000000)/\(0<=(jn B at_).1.2.1/\(jn B at_).1.2.1<=300000000):=by
 have h1:=dP B at_ false;have h2:=dP B (aG B at_ false).2.1 (aG B at_ false).2.2;have e1:(jn B at_).1.1=((br B at_ false).1:Int):=rfl;have e2:(jn B at_).1.2.1=((br B (aG B at_ false).2.1 (aG B at_ false).2.2).1:Int):=rfl;omega
def t9(n r i o:Int)(F:List (List Int))(O:List (List (List Int)))(x t:AV):List AV:=[.int .i64 n,.int .i64 r,.int .i64 i,.int .i64 o,aF F,x,t,aN O]
theorem ctA{n r i o:Int}{F:List (List Int)}{O:List (List (List Int))}{x s v:AV}{Hf:Hp}(h:Snap Hf s v):av Hf (t9 n r i o F O x s) (t9 n r i o F O x v):=
 av.cons (.inl rfl) (av.cons (.inl rfl) (av.cons (.inl rfl) (av.cons (.inl rfl) (av.cons (.inl rfl) (av.cons (.inl rfl) (av.cons (.inr h) (av.cons (.inl rfl) av.nil)))))))
theorem ctB{n r i o:Int}{F:List (List Int)}{O:List (List (List Int))}{s v t:AV}{Hf:Hp}(h:Snap Hf s v):av Hf (t9 n r i o F O s t) (t9 n r i o F O v t):=
 av.cons (.inl rfl) (av.cons (.inl rfl) (av.cons (.inl rfl) (av.cons (.inl rfl) (av.cons (.inl rfl) (av.cons (.inr h) (av.cons (.inl rfl) (av.cons (.inl rfl) av.nil)))))))
section
attribute [local irreducible] aJ ak bI bA bl bf aC bn bF cb Go.Abs.Fn bD Go.Abs.Pure ax aQ Yl
theorem iI(b:Nat)(B:List UInt8)(at_:Nat)(bad:Bool)(H:Hp)(nx:Nat)(hb:H b=some [aW B,.int .i64 at_,.bool bad])(hl:B.length<=1000000000)(hat:at_<=B.length):
    Abs.Fn Try.prog 40 [.ptr b 3 0] H nx λr H' nx'=>r=.int .i64 (br B at_ bad).1/\H'=ah H b [aW B,.int .i64 (br B at_ bad).2.1,.bool (br B at_ bad).2.2]/\nx'=nx:=by
 refine fO Dq ?_;simp only[b40,aS];cases bad with
 |true=>
  have zz:=aI @hb @bm;repeat' (first|refine zW ?_|apply a_n|refine zO ?_|refine vZ ?_|fail)
  refine fg (X:=Unit) (λ_=>[(0,.ptr b 3 0),(5,.int .i64 0)]) (λ_=>True) (λ_=>0) () trivial ag0 ?_;rintro _ _;clear zz;have zz:=aI @NK (aI @hb (aI @aH (aI @aB (aI @aP @bm))));repeat' (first|refine zW ?_|apply a_n|apply a_x|refine zO ?_|refine vZ ?_|refine stZ ?_|refine gTZ ?_|refine gFZ ?_|(refine zGZ ?_ ?_<;>(intro _hg;try (exfalso;omega)))|refine cFZ ?_|refine ae rfl ?_|refine r1Z ?_|fail)
  all_goals exact⟨rfl,rfl,rfl⟩
 |false=>
 have hQ:br B at_ false=gW B 4 true 1 0 at_:=by unfold br;rw[if_neg (by simp)]
 have zz:=aI @hb @bm;repeat' (first|refine zW ?_|apply a_n|refine zO ?_|refine vZ ?_|fail)
 refine dL (X:=Nat×Nat×Nat×Nat) (λs=>[(0,.ptr b 3 0),(3,.int .i64 (s.2.1:Int)),(4,.int .i64 (s.2.2.1:Int)),(5,.int .i64 (s.1:Int))])
  (λs H' nx'=>s.1<=4/\s.2.2.1=128^s.1/\s.2.1<128^s.1/\s.2.2.2<=B.length/\nx'=nx/\H'=ah H b [aW B,.int .i64 (s.2.2.2:Int),.bool false]/\br B at_ false=gW B (4-s.1) (decide (s.1=0)) s.2.2.1 s.2.1 s.2.2.2) (λs=>4-s.1) (0,0,1,at_)
  ⟨by omega,rfl,by simp,hat,rfl,(lB hb).symm,hQ⟩ ag0 ?_
 rintro⟨i,n,u,p⟩ H2 nx2 ⟨h1,h2,h3,h4,rfl,rfl,h5⟩;dsimp only at h1 h2 h3 h4 h5 |-;have hb2:ah H b [aW B,.int .i64 (p:Int),.bool false] b=some [aW B,.int .i64 (p:Int),.bool false]:=ag;by_cases hi:i<4/\p<B.length
 rotate_left
 ·have hend:br B at_ false=(0,p,true):=by
    rw[h5];by_cases h6:i<4
    ·obtain⟨k,hk⟩:∃k,4-i=k+1:=⟨3-i,by omega⟩
     rw[hk];simp only[gW];rw[if_neg (by omega)]
    ·rw[show 4-i=0 by omega];rfl
  rw[hend];clear zz;have zz:=aI @NK (aI @hb2 (aI @aH (aI @aB (aI @aP @bm))));repeat' (first|refine zW ?_|apply a_n|apply a_x|refine zO ?_|refine vZ ?_|refine stZ ?_|refine gTZ ?_|refine gFZ ?_|(refine zGZ ?_ ?_<;>(intro _hg;try (exfalso;omega)))|refine cFZ ?_|refine ae rfl ?_|refine r1Z ?_|fail)
  all_goals exact⟨rfl,nb,rfl⟩
 obtain⟨hi,hp⟩:=hi;obtain⟨k,hk⟩:∃k,4-i=k+1:=⟨3-i,by omega⟩
 rw[hk] at h5;simp only[gW] at h5;rw[if_pos hp] at h5;have hb4:128^i<=128^3:=Nat.pow_le_pow_right (by omega) (by omega);have hb4':(128:Nat)^3=2097152:=rfl;have hsucc:128^(i+1)=128^i*128:=Nat.pow_succ 128 i;have hc1:=ll (B.getD p default);have hix:=iO (l:=B) (k:=.i64) (n:=(p:Int)) (by omega) (by omega);rw[kK] at hix;generalize hcc:(B.getD p default)=c at *;have hmul:c.toNat*u<=255*2097152:=Nat.mul_le_mul (by omega) (by omega);have hmul2:c.toNat%128*u<=127*u:=gF _ (by omega);have m1:(c.toNat:Int)*(u:Int)=((c.toNat*u:Nat):Int):=by simp
 by_cases hc:c.toNat<128
 ·rw[if_pos hc] at h5;have dc:decide ((c.toNat:Int)<128)=true:=bk (by omega)
  have di:decide ((0:Int)<(i:Int))=!decide (i=0):=by
   by_cases h:i=0<;>simp[h]<;>omega
  have dz:decide ((c.toNat:Int)=0)=decide (c.toNat=0):=decide_eq_decide.2 (by omega);rw[h5];by_cases hi0:i=0
  ·have d0:decide ((0:Int)<(i:Int))=false:=bq (by omega);have df:decide (decide (i=0)=false/\c.toNat=0)=false:=bq (by simp[hi0]);rw[df];clear zz;have zz:=aI @NK (aI @hb2 (aI @aH (aI @aB (aI @aP (aI @hix (aI @qL (aI @dc (aI @d0 (aI @m1 @bm)))))))));repeat' (first|refine zW ?_|apply a_n|apply a_r|refine zO ?_|refine vZ ?_|refine stZ ?_|refine gTZ ?_|refine gFZ ?_|(refine zGZ ?_ ?_<;>(intro _hg;try (exfalso;omega)))|refine cTZ ?_|refine ae rfl ?_|refine r1Z ?_|fail)
   refine⟨?_,?_,rfl⟩
   ·show AV.int _ _=AV.int _ ((n+c.toNat*u:Nat):Int);rw[Int.natCast_add]
   ·rw[nb,nb];rfl
  ·have d0:decide ((0:Int)<(i:Int))=true:=bk (by omega);have df:decide (decide (i=0)=false/\c.toNat=0)=decide ((c.toNat:Int)=0):=decide_eq_decide.2 (by simp[hi0]);rw[df];clear zz;have zz:=aI @NK (aI @hb2 (aI @aH (aI @aB (aI @aP (aI @hix (aI @qL (aI @dc (aI @d0 (aI @m1 @bm)))))))));repeat' (first|refine zW ?_|apply a_n|apply a_r|refine zO ?_|refine vZ ?_|refine stZ ?_|refine gTZ ?_|(refine zGZ ?_ ?_<;>(intro _hg;try (exfalso;omega)))|refine cTZ ?_|refine ae rfl ?_|refine r1Z ?_|fail)
   refine⟨?_,?_,rfl⟩
   ·show AV.int _ _=AV.int _ ((n+c.toNat*u:Nat):Int);rw[Int.natCast_add]
   ·rw[nb,nb];rfl
 ·rw[if_neg hc] at h5;have dc:decide ((c.toNat:Int)<128)=false:=bq (by omega)
  have m2:((c.toNat:Int)-128)*(u:Int)=((c.toNat%128*u:Nat):Int):=by
   rw[show(c.toNat:Int)-128=((c.toNat%128:Nat):Int) by omega];simp
  clear zz;have zz:=aI @NK (aI @hb2 (aI @aH (aI @aB (aI @aP (aI @hix (aI @qL (aI @dc (aI @m2 @bm))))))));repeat' (first|refine zW ?_|apply a_n|refine zO ?_|refine vZ ?_|refine stZ ?_|refine gTZ ?_|(refine zGZ ?_ ?_<;>(intro _hg;try (exfalso;omega)))|refine cTZ ?_|refine cFZ ?_|fail)
  refine⟨(i+1,n+c.toNat%128*u,u*128,p+1),by dsimp only;omega,⟨by dsimp only;omega,by dsimp only;rw[hsucc,h2],by dsimp only;rw[hsucc,<-h2];omega,hp,rfl,?_,?_⟩,by simp (disch:=omega) only[agr,ZG,reduceEqDiff,↓reduceIte,show((u*128:Nat):Int)=(u:Int)*128 by omega]⟩
  ·rw[nb];rfl
  ·dsimp only;rw[h5,show 4-(i+1)=k by omega,bq (by omega)]
theorem Ci(l m:List Int)(hl:Sh l)(hm:Sh m):pU 80 [be l,be m] (.bool (decide (l=m))):=by
 refine pO DB ?_;simp only[b80,aS];have hl':l.length<=9223372036854775807:=hl;have hm':m.length<=9223372036854775807:=hm;by_cases hlm:l.length=m.length
 rotate_left
 ·have d0:decide ((l.length:Int)≠(m.length:Int))=true:=bk (by omega);have e:decide (l=m)=false:=bq (λh=>hlm (by rw[h]));rw[e];have zz:=@d0;repeat' (first|refine zW ?_|apply a_n|apply a_r|refine zO ?_|refine vZ ?_|refine cTZ ?_|refine ae rfl ?_|refine r1Z ?_|fail)
  all_goals exact .bool _
 have d0:decide ((l.length:Int)≠(m.length:Int))=false:=bq (by omega);have zz:=@d0;repeat' (first|refine zW ?_|apply a_n|refine zO ?_|refine vZ ?_|refine cFZ ?_|fail)
 refine ee (λk=>[(0,be l),(1,be m),(5,.int .i64 k)]) l.length (λk=>l.getD k default=m.getD k default) ag0 ?_;intro k hk hp;by_cases hk2:k<l.length
 rotate_left
 ·repeat' (first|refine zW ?_|apply a_n|apply a_x|refine zO ?_|refine vZ ?_|(refine zGZ ?_ ?_<;>(intro _hg;try (exfalso;omega)))|refine ae rfl ?_|refine r1Z ?_|fail)
  exact ap (bk (mF hlm λi hi=>hp i (by omega))).symm
 repeat' (first|refine zW ?_|apply a_n|apply a_r|refine zO ?_|refine vZ ?_|(refine zGZ ?_ ?_<;>(intro _hg;try (exfalso;omega)))|refine ae rfl ?_|refine r1Z ?_|fail)
 ·exact ap (bq (λh=>by subst h;omega)).symm
 ·exact⟨hk2,by omega,ag0,rfl,rfl⟩
theorem wX(l m:List (List Int))(hl:Sh2 l)(hm:Sh2 m):pU 53 [aF l,aF m] (.bool (decide (l=m))):=by
 refine pO DY ?_;simp only[b53,aS];have hl':l.length<=9223372036854775807:=hl.1;have hm':m.length<=9223372036854775807:=hm.1;by_cases hlm:l.length=m.length
 rotate_left
 ·have d0:decide ((l.length:Int)≠(m.length:Int))=true:=bk (by omega);have e:decide (l=m)=false:=bq (λh=>hlm (by rw[h]));rw[e];have zz:=@d0;repeat' (first|refine zW ?_|apply a_n|apply a_r|refine zO ?_|refine vZ ?_|refine cTZ ?_|refine ae rfl ?_|refine r1Z ?_|fail)
  all_goals exact .bool _
 have d0:decide ((l.length:Int)≠(m.length:Int))=false:=bq (by omega);have zz:=@d0;repeat' (first|refine zW ?_|apply a_n|refine zO ?_|refine vZ ?_|refine cFZ ?_|fail)
 refine ee (λk=>[(0,aF l),(1,aF m),(5,.int .i64 k)]) l.length (λk=>l.getD k default=m.getD k default) ag0 ?_;intro k hk hp;by_cases hk2:k<l.length
 rotate_left
 ·repeat' (first|refine zW ?_|apply a_n|apply a_x|refine zO ?_|refine vZ ?_|(refine zGZ ?_ ?_<;>(intro _hg;try (exfalso;omega)))|refine ae rfl ?_|refine r1Z ?_|fail)
  exact ap (bk (mF hlm λi hi=>hp i (by omega))).symm
 have hc:=Ci (l.getD k default) (m.getD k default) (hl.2 _ (aj hk2)) (hm.2 _ (aj (by omega)));by_cases he:l.getD k default=m.getD k default
 ·rw[bk he] at hc
  repeat' (first|refine zW ?_|refine zM ?_|apply a_n|refine zO ?_|refine vZ ?_|refine cZ ?_ (hp:=hc)|refine cFZ ?_|(refine zGZ ?_ ?_<;>(intro _hg;try (exfalso;omega)))|fail)
  exact⟨hk2,he,ag0,rfl,rfl⟩
 ·rw[bq he] at hc
  repeat' (first|refine zW ?_|refine zM ?_|apply a_n|apply a_r|refine zO ?_|refine vZ ?_|refine cZ ?_ (hp:=hc)|refine cTZ ?_|(refine zGZ ?_ ?_<;>(intro _hg;try (exfalso;omega)))|refine ae rfl ?_|refine r1Z ?_|fail)
  exact ap (bq (λh=>by subst h;exact he rfl)).symm
theorem tK(l m:List (List (List Int)))(hl:Sh3 l)(hm:Sh3 m):pU 54 [aN l,aN m] (.bool (decide (l=m))):=by
 refine pO DE ?_;simp only[b54,aS];have hl':l.length<=9223372036854775807:=hl.1;have hm':m.length<=9223372036854775807:=hm.1;by_cases hlm:l.length=m.length
 rotate_left
 ·have d0:decide ((l.length:Int)≠(m.length:Int))=true:=bk (by omega);have e:decide (l=m)=false:=bq (λh=>hlm (by rw[h]));rw[e];have zz:=aI @ME @d0;repeat' (first|refine zW ?_|apply a_n|apply a_r|refine zO ?_|refine vZ ?_|refine cTZ ?_|refine ae rfl ?_|refine r1Z ?_|fail)
  all_goals exact .bool _
 have d0:decide ((l.length:Int)≠(m.length:Int))=false:=bq (by omega);have zz:=aI @ME @d0;repeat' (first|refine zW ?_|apply a_n|refine zO ?_|refine vZ ?_|refine cFZ ?_|fail)
 refine ee (λk=>[(0,aN l),(1,aN m),(5,.int .i64 k)]) l.length (λk=>l.getD k default=m.getD k default) ag0 ?_;intro k hk hp;by_cases hk2:k<l.length
 rotate_left
 ·clear zz;have zz:=@ME;repeat' (first|refine zW ?_|apply a_n|apply a_x|refine zO ?_|refine vZ ?_|(refine zGZ ?_ ?_<;>(intro _hg;try (exfalso;omega)))|refine ae rfl ?_|refine r1Z ?_|fail)
  exact ap (bk (mF hlm λi hi=>hp i (by omega))).symm
 have hc:=wX (l.getD k default) (m.getD k default) (hl.2 _ (aj hk2)) (hm.2 _ (aj (by omega)));by_cases he:l.getD k default=m.getD k default
 ·rw[bk he] at hc;clear zz;have zz:=@ME;repeat' (first|refine zW ?_|refine zM ?_|apply a_n|refine zO ?_|refine vZ ?_|refine cZ ?_ (hp:=hc)|refine cFZ ?_|(refine zGZ ?_ ?_<;>(intro _hg;try (exfalso;omega)))|fail)
  exact⟨hk2,he,ag0,rfl,rfl⟩
 ·rw[bq he] at hc;clear zz;have zz:=@ME;repeat' (first|refine zW ?_|refine zM ?_|apply a_n|apply a_r|refine zO ?_|refine vZ ?_|refine cZ ?_ (hp:=hc)|refine cTZ ?_|(refine zGZ ?_ ?_<;>(intro _hg;try (exfalso;omega)))|refine ae rfl ?_|refine r1Z ?_|fail)
  exact ap (bq (λh=>by subst h;exact he rfl)).symm
theorem BA(a b:MachV)(ha:ShM a)(hb:ShM b):pU 23 [bV a,bV b] (.bool (decide (a=b))):=by
 refine pO DK ?_;simp only[b23,aS];have c1:=wX _ _ ha.first' hb.first'
 have c2:=tK _ _ ha.out' hb.out';have k1:a.symbols.length<=9223372036854775807:=ha.symbols;have k2:a.steps.length<=9223372036854775807:=ha.steps
 have hab:a=b↔(a.n=b.n/\a.rounds=b.rounds/\a.ins=b.ins/\a.outs=b.outs/\a.first=b.first/\a.out=b.out/\a.symbols=b.symbols/\a.steps=b.steps):=by
  obtain⟨a1,a2,a3,a4,a5,a6,a7,a8⟩:=a;obtain⟨b1,b2,b3,b4,b5,b6,b7,b8⟩:=b;simp only[MachV.mk.injEq];constructor
  ·rintro⟨rfl,rfl,rfl,rfl,rfl,rfl,rfl,rfl⟩;simp
  ·rintro⟨rfl,rfl,rfl,rfl,rfl,rfl,rfl,rfl⟩;simp
 unfold bV MachV.cells;by_cases h:a.n=b.n/\a.rounds=b.rounds/\a.ins=b.ins/\a.outs=b.outs/\a.first=b.first/\a.out=b.out/\a.symbols.length=b.symbols.length/\a.steps.length=b.steps.length
 rotate_left
 ·have e:decide (a=b)=false:=bq (λhh=>h (by rw[hh];simp));rw[e];by_cases h1:a.first=b.first
  ·rw[bk h1] at c1;by_cases h2:a.out=b.out
   ·rw[bk h2] at c2;have zz:=@ME;repeat' (first|refine zW ?_|apply a_n|apply a_r|refine zO ?_|refine vZ ?_|refine cZ ?_ (hp:=by first|exact c1|exact c2) (hs:=by(first|refine aq ?_ rfl|apply az);(repeat' (first|exact ar|apply aO|apply ay|exact de _|exact dy _));first|done|fail)|refine bxZ ?_|refine gTZ ?_|refine gFZ ?_|refine cTZ ?_|(refine zGZ ?_ ?_<;>(intro _hg;try (exfalso;omega)))|refine ae rfl ?_|refine r1Z ?_|fail)
    all_goals first
     |exact .bool _
     |(exfalso;exact h ⟨by omega,by omega,by omega,by omega,h1,h2,by omega,by omega⟩)
     |trace_state
   ·rw[bq h2] at c2;have zz:=@ME;repeat' (first|refine zW ?_|apply a_n|apply a_r|refine zO ?_|refine vZ ?_|refine cZ ?_ (hp:=by first|exact c1|exact c2) (hs:=by(first|refine aq ?_ rfl|apply az);(repeat' (first|exact ar|apply aO|apply ay|exact de _|exact dy _));first|done|fail)|refine bxZ ?_|refine gTZ ?_|refine gFZ ?_|(refine zGZ ?_ ?_<;>(intro _hg;try (exfalso;omega)))|refine cTZ ?_|refine ae rfl ?_|refine r1Z ?_|fail)
    all_goals exact .bool _
  ·rw[bq h1] at c1;have zz:=@ME;repeat' (first|refine zW ?_|apply a_n|apply a_r|refine zO ?_|refine vZ ?_|refine cZ ?_ (hp:=c1) (hs:=by(first|refine aq ?_ rfl|apply az);(repeat' (first|exact ar|apply aO|apply ay|exact de _|exact dy _));first|done|fail)|refine bxZ ?_|refine gTZ ?_|refine gFZ ?_|(refine zGZ ?_ ?_<;>(intro _hg;try (exfalso;omega)))|refine cTZ ?_|refine ae rfl ?_|refine r1Z ?_|fail)
   all_goals exact .bool _
 obtain⟨h1,h2,h3,h4,h5,h6,h7,h8⟩:=h;rw[bk h5] at c1;rw[bk h6] at c2;have d1:decide (a.n≠b.n)=false:=bq (λh=>h h1);have d2:decide (a.rounds≠b.rounds)=false:=bq (λh=>h h2);have d3:decide (a.ins≠b.ins)=false:=bq (λh=>h h3);have d4:decide (a.outs≠b.outs)=false:=bq (λh=>h h4);have d5:decide ((a.symbols.length:Int)≠(b.symbols.length:Int))=false:=bq (by omega);have d6:decide ((a.steps.length:Int)≠(b.steps.length:Int))=false:=bq (by omega);refine bW ?_;have zz:=@ME;repeat' (first|apply a_n|refine zO ?_|refine vZ ?_|refine bxZ ?_|fail)
 refine cw (λT H nx=>T 2=.ptr 0 8 0/\T 3=.ptr 1 8 0/\H=ah (ah bi 0 a.cells) 1 b.cells) ?_ ?_
 ·clear zz;have zz:=aI @ME (aI @d1 (aI @d2 (aI @d3 (aI @d4 (aI @d5 @d6)))));repeat' (first|refine zW ?_|apply a_n|refine zO ?_|refine vZ ?_|refine cZ ?_ (hp:=by first|exact c1|exact c2) (hs:=by(first|refine aq ?_ rfl|apply az);(repeat' (first|exact ar|apply aO|apply ay|exact de _|exact dy _));first|done|fail)|refine gTZ ?_|refine cFZ ?_|fail)
  exact⟨rfl,rfl,rfl⟩
 rintro T H nx ⟨t2,t3,rfl⟩;unfold MachV.cells;refine cw (λT H nx=>T 2=.ptr 0 8 0/\T 3=.ptr 1 8 0/\H=ah (ah bi 0 a.cells) 1 b.cells/\a.symbols=b.symbols) ?_ ?_
 ·clear zz;have zz:=@ME;repeat' (first|refine zW ?_|apply a_n|refine zO ?_|refine vZ ?_|fail)
  refine ee (λk=>[(2,.ptr 0 8 0),(3,.ptr 1 8 0),(5,.int .i64 k)]) a.symbols.length (λk=>a.symbols.getD k default=b.symbols.getD k default) (have zz:=aI @t2 @t3;agZ) ?_;intro k hk hp;by_cases hk2:k<a.symbols.length
  rotate_left
  ·clear zz;have zz:=@ME;repeat' (first|refine zW ?_|apply a_n|apply a_x|refine zO ?_|refine vZ ?_|(refine zGZ ?_ ?_<;>(intro _hg;try (exfalso;omega)))|fail)
   exact⟨rfl,rfl,rfl,mF h7 λi hi=>hp i (by omega)⟩
  have hc:=tK (a.symbols.getD k default) (b.symbols.getD k default) (ha.symbols'.2 _ (aj hk2)) (hb.symbols'.2 _ (aj (by omega)));by_cases he:a.symbols.getD k default=b.symbols.getD k default
  ·rw[bk he] at hc;clear zz;have zz:=@ME;repeat' (first|refine zW ?_|refine zM ?_|apply a_n|refine zO ?_|refine vZ ?_|refine cZ ?_ (hp:=hc) (hs:=by(first|refine aq ?_ rfl|apply az);(repeat' (first|exact ar|apply aO|apply ay|exact dy _));first|done|fail)|refine cFZ ?_|(refine zGZ ?_ ?_<;>(intro _hg;try (exfalso;omega)))|fail)
   exact⟨hk2,he,ag0,rfl,rfl⟩
  ·rw[bq he] at hc;clear zz;have zz:=@ME;repeat' (first|refine zW ?_|refine zM ?_|apply a_n|apply a_r|refine zO ?_|refine vZ ?_|refine cZ ?_ (hp:=hc) (hs:=by(first|refine aq ?_ rfl|apply az);(repeat' (first|exact ar|apply aO|apply ay|exact dy _));first|done|fail)|refine cTZ ?_|(refine zGZ ?_ ?_<;>(intro _hg;try (exfalso;omega)))|refine ae rfl ?_|refine r1Z ?_|fail)
   exact ap (bq (λh=>by rw[h] at he;exact he rfl)).symm
 clear zz;clear t2 t3;rintro T H nx ⟨t2,t3,rfl,hsy⟩;unfold MachV.cells;have zz:=@ME;repeat' (first|refine zW ?_|apply a_n|refine zO ?_|refine vZ ?_|fail)
 refine ee (λk=>[(2,.ptr 0 8 0),(3,.ptr 1 8 0),(6,.int .i64 k)]) a.steps.length (λk=>a.steps.getD k default=b.steps.getD k default) (have zz:=aI @t2 @t3;agZ) ?_;intro k hk hp;by_cases hk2:k<a.steps.length
 rotate_left
 ·clear zz;have zz:=@ME;repeat' (first|refine zW ?_|apply a_n|apply a_x|refine zO ?_|refine vZ ?_|(refine zGZ ?_ ?_<;>(intro _hg;try (exfalso;omega)))|refine ae rfl ?_|refine r1Z ?_|fail)
  exact ap (bk (hab.2 ⟨h1,h2,h3,h4,h5,h6,hsy,mF h8 λi hi=>hp i (by omega)⟩)).symm
 have hcmp:=qX (a.steps.getD k default) (b.steps.getD k default);by_cases he:a.steps.getD k default=b.steps.getD k default
 ·rw[bk he] at hcmp;unfold StepV.cells at hcmp;clear zz;have zz:=aI @ME @hcmp;repeat' (first|refine zW ?_|apply a_n|refine zO ?_|refine vZ ?_|refine cFZ ?_|(refine zGZ ?_ ?_<;>(intro _hg;try (exfalso;omega)))|fail)
  exact⟨hk2,he,ag0,rfl,rfl⟩
 ·rw[bq he] at hcmp;unfold StepV.cells at hcmp;clear zz;have zz:=aI @ME @hcmp;repeat' (first|refine zW ?_|apply a_n|apply a_r|refine zO ?_|refine vZ ?_|refine cTZ ?_|(refine zGZ ?_ ?_<;>(intro _hg;try (exfalso;omega)))|refine ae rfl ?_|refine r1Z ?_|fail)
  exact ap (bq (λh=>by rw[h] at he;exact he rfl)).symm
theorem iB(l:List Int)(add:Int)(hl:l.length<=1000000000)(ha:-1000<=add/\add<=1000)(hn:∀x∈l,0<=x+add/\x+add<=4611686018427387904):pU 76 [be l,.int .i64 add] (aW (aL add l)):=by
 refine pO Dx ?_;simp only[b76,aS];have zz:=@mW;repeat' (first|refine zW ?_|apply a_n|refine zO ?_|refine vZ ?_|fail)
 refine fg (X:=Nat) (λk=>[(0,be l),(1,.int .i64 add),(5,aW (aL add (l.take k))),(6,.int .i64 k)]) (λk=>k<=l.length) (λk=>l.length-k) 0 (bZ _) (by simp (disch:=omega) only[agr,ZG,reduceEqDiff,↓reduceIte,List.take_zero,show aL add []=[] from rfl]) ?_;rintro k h1;by_cases hk:k<l.length
 rotate_left
 ·repeat' (first|refine zW ?_|apply a_n|apply a_x|refine zO ?_|refine vZ ?_|(refine zGZ ?_ ?_<;>(intro _hg;try (exfalso;omega)))|refine ae rfl ?_|refine r1Z ?_|fail)
  rw[gP (by omega)];exact bv _ _
 have hv:=hn _ (aj hk);have hc:=jv (l.getD k default+add) hv;have ht:=bT hk;have hl1:=dh add (l.take k);have hl2:=mC (l.getD k default+add).toNat;rw[gN] at hl1;have s1:=dQ (a:=aL add (l.take k)) (b:=dq (l.getD k default+add).toNat) (by omega);rw[<-pY,<-ht] at s1;generalize dq (l.getD k default+add).toNat=V at *;clear zz;have zz:=@s1;repeat' (first|refine zW ?_|apply a_n|refine zO ?_|refine vZ ?_|refine cZ ?_ (hp:=hc) (hs:=by(first|refine aq ?_ rfl|apply az);(repeat' (first|exact ar|apply aO|apply ay|exact bv _));first|done|fail)|(refine zGZ ?_ ?_<;>(intro _hg;try (exfalso;omega)))|fail)
 refine⟨k+1,by omega,by omega,ag0,rfl,rfl⟩
theorem BI(m:MachV)(hg:GoodM m):pU 45 [bV m] (aW (jx m++m.first.flatMap (aL 1))):=by
 refine pO CV ?_;simp only[b45,aS];have hn:=hg.n;have hr:=hg.r;have hi:=hg.i;have ho:=hg.o;obtain⟨l1,l2,l3⟩:=cK hg.sh;have b1:=pD 1;have e1:hG 1=1:=rfl;rw[e1] at b1;have s1:∀tb tf,aX .add tb tf (.str ⟨⟨[82,84,77]⟩⟩) (aW [1])=some (aW [82,84,77,1]):=dQ (a:=[82,84,77]) (b:=[1]) (by simp);have hv4:=dh 0 [m.n,m.rounds,m.ins,m.outs];have s2:∀tb tf,aX .add tb tf (aW [82,84,77,1]) (aW (aL 0 [m.n,m.rounds,m.ins,m.outs]))=some (aW (jx m)):=dQ (a:=[82,84,77,1]) (b:=aL 0 [m.n,m.rounds,m.ins,m.outs]) (by simp at hv4 |-;omega);have n1:=iB [m.n,m.rounds,m.ins,m.outs] 0 (by simp) (by omega) (λx hx=>by simp at hx;omega);have hhl:(jx m).length<=44:=by unfold jx;simp at hv4 |-;omega
 have hfl:=λk=>d7 m.first (aL 1) k
 have hbl:=jj hg;unfold kQ at hbl;simp only[cm] at hbl;have gf:=λp(hp:p<m.first.length)=>m8 hg.sh (aj hp);unfold bV MachV.cells;have zz:=aI @ME (aI @s1 @s2);repeat' (first|refine zW ?_|apply a_n|refine zO ?_|refine vZ ?_|refine cZ ?_ (hp:=by first|exact b1|exact n1) (hs:=by(first|refine aq ?_ rfl|apply az);(repeat' (first|exact ar|apply aO|apply ay|exact cW _));first|done|fail)|refine bxZ ?_|refine blZ ?_|fail)
 refine mo ev0 ev0 n1 (aq (aV ((Row.box (sz:=1) 1 4 ([m.n,m.rounds,m.ins,m.outs].map (AV.int .i64)) ag rfl).snapI) (aV (.int _ _) ar)) rfl) ?_;have q0:ah (ah bi 0 [AV.int IntKind.i64 m.n,AV.int IntKind.i64 m.rounds,AV.int IntKind.i64 m.ins,AV.int IntKind.i64 m.outs,aF m.first,b9 m.symbols,bh m.steps,aN m.out]) (0+1) [AV.int IntKind.i64 m.n,AV.int IntKind.i64 m.rounds,AV.int IntKind.i64 m.ins,AV.int IntKind.i64 m.outs] 0=some [AV.int IntKind.i64 m.n,AV.int IntKind.i64 m.rounds,AV.int IntKind.i64 m.ins,AV.int IntKind.i64 m.outs,aF m.first,b9 m.symbols,bh m.steps,aN m.out]:=by rw[ac (by omega),ag]
 generalize ah (ah bi 0 [AV.int IntKind.i64 m.n,AV.int IntKind.i64 m.rounds,AV.int IntKind.i64 m.ins,AV.int IntKind.i64 m.outs,aF m.first,b9 m.symbols,bh m.steps,aN m.out]) (0+1) [AV.int IntKind.i64 m.n,AV.int IntKind.i64 m.rounds,AV.int IntKind.i64 m.ins,AV.int IntKind.i64 m.outs]=HH at *;clear zz;have zz:=aI @ME @s2;repeat' (first|refine zW ?_|apply a_n|refine zO ?_|refine vZ ?_|fail)
 refine dL (X:=Nat) (λp=>[(1,.ptr 0 8 0),(3,aW (jx m++(m.first.take p).flatMap (aL 1))),(4,.int .i64 p)]) (λp H nx=>p<=m.first.length/\H 0=some [AV.int IntKind.i64 m.n,AV.int IntKind.i64 m.rounds,AV.int IntKind.i64 m.ins,AV.int IntKind.i64 m.outs,aF m.first,b9 m.symbols,bh m.steps,aN m.out]) (λp=>m.first.length-p) 0 ⟨bZ _,q0⟩ (by rw[List.take_zero,List.flatMap_nil,kp];(iterate 3 refine And.intro rfl ?_);trivial) ?_;rintro p H nx ⟨h1,q0⟩;by_cases hp:p<m.first.length
 rotate_left
 ·have z:decide ((p:Int)<m.n)=false:=bq (by omega);rw[gP (by omega)];clear zz;have zz:=aI @ME (aI @q0 @z);repeat' (first|refine zW ?_|apply a_n|apply a_x|refine zO ?_|refine vZ ?_|refine cFZ ?_|refine ae rfl ?_|refine r1Z ?_|fail)
  exact bv _ _
 have z:decide ((p:Int)<m.n)=true:=bk (by omega);have hv:=iB (m.first.getD p default) 1 (by have:=gf p hp;omega) (by omega) (λx hx=>w7 hg (aj hp) hx);obtain⟨t1,t2⟩:=jQ m.first (aL 1) hp
 have hf1:=d7 m.first (aL 1) m.first.length
 have s3:=dQ (a:=jx m++(m.first.take p).flatMap (aL 1)) (b:=aL 1 (m.first.getD p default)) (by rw[cm];omega);rw[f8,<-t1] at s3;generalize (m.first.take p).flatMap (aL 1)=A at *;generalize hBB:(m.first.take (p+1)).flatMap (aL 1)=B at *;generalize hVV:aL 1 (m.first.getD p default)=V at *;clear zz;have zz:=aI @ME (aI @q0 (aI @z @s3));repeat' (first|refine zW ?_|apply a_n|refine zO ?_|refine vZ ?_|refine cZ ?_ (hp:=hv) (hs:=by(first|refine aq ?_ rfl|apply az);(repeat' (first|exact ar|apply aO|apply ay|exact cW _));first|done|fail)|refine cTZ ?_|fail)
 exact⟨p+1,by omega,⟨by omega,q0⟩,by rw[hBB];simp (disch:=omega) only[agr,ZG,reduceEqDiff,↓reduceIte]⟩
theorem za(m:MachV)(hg:GoodM m):pU 46 [bV m] (aW (m.out.flatMap fk++m.symbols.flatMap eK)):=by
 refine pO CW ?_;simp only[b46,aS];have hn:=hg.n;have hr:=hg.r;obtain⟨l1,l2,l3⟩:=cK hg.sh;have hbl:=me hg;have go:=λk(hk:k<m.out.length)=>co hg.sh hk;have go8:=λk(hk:k<m.out.length)=>(iA hg (aj hk)).2;have gv:=λk(hk:k<m.out.length) p(hp:p<(m.out.getD k default).length)=>zI hg (aj hk) (aj hp);have gs:=λk(hk:k<m.symbols.length)=>gk hg.sh hk;have gs8:=λk(hk:k<m.symbols.length)=>(qD hg (aj hk)).2;have gw:=λk(hk:k<m.symbols.length) p(hp:p<(m.symbols.getD k default).length) q(hq:q<((m.symbols.getD k default).getD p default).length)=>y1 hg (aj hk) (aj hp) (aj hq);unfold bV MachV.cells;generalize hO:m.out=O at *;generalize hS:m.symbols=S at *;have zz:=aI @ME @mW;repeat' (first|refine zW ?_|apply a_n|refine zO ?_|refine vZ ?_|refine bxZ ?_|fail)
 refine dL (X:=Nat) (λk=>[(1,.ptr 0 8 0),(3,aW ((O.take k).flatMap fk)),(4,.int .i64 k)]) (λk H nx=>k<=O.length/\H 0=some [AV.int IntKind.i64 m.n,AV.int IntKind.i64 m.rounds,AV.int IntKind.i64 m.ins,AV.int IntKind.i64 m.outs,aF m.first,b9 S,bh m.steps,aN O]) (λk=>O.length-k) 0 ⟨bZ _,ag⟩ (by rw[List.take_zero,List.flatMap_nil];(iterate 3 refine And.intro rfl ?_);trivial) ?_;rintro k H nx ⟨h1,q0⟩;by_cases hk:k<O.length
 ·have z:decide ((k:Int)<=m.rounds)=true:=bk (by omega);obtain⟨t1,t2⟩:=jQ O fk hk;have hx:=go k hk;have hx8:=go8 k hk;have hxv:=gv k hk;generalize hA:(O.take k).flatMap fk=A at *;rw[show fk (O.getD k default)=(O.getD k default).flatMap qu from rfl] at t1 t2;generalize hX:O.getD k default=X at *;clear zz;have zz:=aI @ME (aI @q0 @z);repeat' (first|refine zW ?_|apply a_n|refine zO ?_|refine vZ ?_|refine cTZ ?_|fail)
  refine dL (X:=Nat) (λp=>[(1,.ptr 0 8 0),(3,aW (A++(X.take p).flatMap qu)),(4,.int .i64 k),(5,.int .i64 p)]) (λp H nx=>p<=X.length/\H 0=some [AV.int IntKind.i64 m.n,AV.int IntKind.i64 m.rounds,AV.int IntKind.i64 m.ins,AV.int IntKind.i64 m.outs,aF m.first,b9 S,bh m.steps,aN O]) (λp=>X.length-p) 0 ⟨bZ _,q0⟩ (by rw[List.take_zero,List.flatMap_nil,kp];(iterate 4 refine And.intro rfl ?_);trivial) ?_;rintro p H nx ⟨h2,q0⟩;by_cases hp:p<X.length
  ·have zp:decide ((p:Int)<m.n)=true:=bk (by omega);obtain⟨u1,u2⟩:=jQ X qu hp;have h8:=hx8 _ (aj hp);have hv:=hxv p hp;have hfx:=d7 X qu p;have n1:=jv ((X.getD p default).length:Int) (by omega);have n2:=iB (X.getD p default) 1 (by omega) (by omega) (λx hx=>by have:=hv x hx;omega);have e1:aL 0 [((X.getD p default).length:Int)]=dq (((X.getD p default).length:Int)).toNat:=by rw[lC,Int.add_zero]
   have eg:qu (X.getD p default)=dq (((X.getD p default).length:Int)).toNat++aL 1 (X.getD p default):=by unfold qu;rw[e1]
   rw[eg,cm] at u2;have s1:=dQ (a:=dq (((X.getD p default).length:Int)).toNat) (b:=aL 1 (X.getD p default)) (by omega);have s2:=dQ (a:=A++(X.take p).flatMap qu) (b:=dq (((X.getD p default).length:Int)).toNat++aL 1 (X.getD p default)) (by simp only[cm] at hbl |-;omega)
   have e2:(A++(X.take p).flatMap qu)++(dq (((X.getD p default).length:Int)).toNat++aL 1 (X.getD p default))=A++(X.take (p+1)).flatMap qu:=by
    rw[u1,f8,eg]
   rw[e2] at s2;generalize hB:A++(X.take (p+1)).flatMap qu=B at *;generalize A++(X.take p).flatMap qu=A2 at *;generalize dq (((X.getD p default).length:Int)).toNat=V1 at *;generalize hV2:aL 1 (X.getD p default)=V2 at *;generalize hXp:X.getD p default=Xp at *;clear zz;have zz:=aI @ME (aI @q0 (aI @zp (aI @hX (aI @hXp (aI @s1 @s2)))));repeat' (first|refine zW ?_|refine zM ?_|apply a_n|refine zO ?_|refine vZ ?_|refine cZ ?_ (hp:=by first|exact n1|exact n2) (hs:=by(first|refine aq ?_ rfl|apply az);(repeat' (first|exact ar|apply aO|apply ay|exact cW _));first|done|fail)|refine cTZ ?_|fail)
   exact⟨p+1,by omega,⟨by omega,q0⟩,by rw[hB];simp (disch:=omega) only[agr,ZG,reduceEqDiff,↓reduceIte]⟩
  ·have zp:decide ((p:Int)<m.n)=false:=bq (by omega);rw[gP (by omega),<-t1];clear zz;have zz:=aI @ME (aI @q0 @zp);repeat' (first|refine zW ?_|apply a_n|apply a_x|refine zO ?_|refine vZ ?_|refine cFZ ?_|fail)
   exact⟨k+1,by omega,⟨by omega,q0⟩,ag0⟩
 have z:decide ((k:Int)<=m.rounds)=false:=bq (by omega);rw[gP (by omega)];have hOl:(O.flatMap fk).length<=1000000000:=by omega
 generalize O.flatMap fk=OA at *;clear zz;have zz:=aI @ME (aI @q0 @z);repeat' (first|refine zW ?_|apply a_n|apply a_x|refine zO ?_|refine vZ ?_|refine cFZ ?_|fail)
 refine dL (X:=Nat) (λk=>[(1,.ptr 0 8 0),(3,aW (OA++(S.take k).flatMap eK)),(6,.int .i64 k)]) (λk H nx=>k<=S.length/\H 0=some [AV.int IntKind.i64 m.n,AV.int IntKind.i64 m.rounds,AV.int IntKind.i64 m.ins,AV.int IntKind.i64 m.outs,aF m.first,b9 S,bh m.steps,aN O]) (λk=>S.length-k) 0 ⟨bZ _,q0⟩ (by rw[List.take_zero,List.flatMap_nil,kp];(iterate 3 refine And.intro rfl ?_);trivial) ?_;clear zz;clear z hk h1;rintro k H nx ⟨h1,q0⟩;by_cases hk:k<S.length
 rotate_left
 ·have z:decide ((k:Int)<m.rounds)=false:=bq (by omega);rw[gP (by omega)];have zz:=aI @ME (aI @q0 @z);repeat' (first|refine zW ?_|apply a_n|apply a_x|refine zO ?_|refine vZ ?_|refine cFZ ?_|refine ae rfl ?_|refine r1Z ?_|fail)
  exact bv _ _
 have z:decide ((k:Int)<m.rounds)=true:=bk (by omega);obtain⟨t1,t2⟩:=jQ S eK hk;obtain⟨hx,hxq⟩:=gs k hk;have hx8:=gs8 k hk;have hxv:=gw k hk;generalize hA:OA++(S.take k).flatMap eK=A at *;have hAl:A.length+(eK (S.getD k default)).length<=OA.length+(S.flatMap eK).length:=by rw[<-hA,cm];omega
 have t1':OA++(S.take (k+1)).flatMap eK=A++eK (S.getD k default):=by rw[t1,<-hA,f8]
 rw[show eK (S.getD k default)=(S.getD k default).flatMap ga from rfl] at hAl t1';generalize hX:S.getD k default=X at *;have zz:=aI @ME (aI @q0 @z);repeat' (first|refine zW ?_|apply a_n|refine zO ?_|refine vZ ?_|refine cTZ ?_|fail)
 refine dL (X:=Nat) (λp=>[(1,.ptr 0 8 0),(3,aW (A++(X.take p).flatMap ga)),(6,.int .i64 k),(7,.int .i64 p)]) (λp H nx=>p<=X.length/\H 0=some [AV.int IntKind.i64 m.n,AV.int IntKind.i64 m.rounds,AV.int IntKind.i64 m.ins,AV.int IntKind.i64 m.outs,aF m.first,b9 S,bh m.steps,aN O]) (λp=>X.length-p) 0 ⟨bZ _,q0⟩ (by rw[List.take_zero,List.flatMap_nil,kp];(iterate 4 refine And.intro rfl ?_);trivial) ?_;rintro p H nx ⟨h2,q0⟩;by_cases hp:p<X.length
 rotate_left
 ·have zp:decide ((p:Int)<m.n)=false:=bq (by omega);rw[gP (by omega),<-t1'];clear zz;have zz:=aI @ME (aI @q0 @zp);repeat' (first|refine zW ?_|apply a_n|apply a_x|refine zO ?_|refine vZ ?_|refine cFZ ?_|fail)
  exact⟨k+1,by omega,⟨by omega,q0⟩,ag0⟩
 have zp:decide ((p:Int)<m.n)=true:=bk (by omega);obtain⟨u1,u2⟩:=jQ X ga hp;have hy:=(hxq p hp).1;have hy8:=(hx8 _ (aj hp)).2;have hyv:=hxv p hp;generalize hA2:A++(X.take p).flatMap ga=A2 at *;have hAl2:A2.length+(ga (X.getD p default)).length<=A.length+(X.flatMap ga).length:=by rw[<-hA2,cm];omega
 have u1':A++(X.take (p+1)).flatMap ga=A2++ga (X.getD p default):=by rw[u1,<-hA2,f8]
 rw[show ga (X.getD p default)=(X.getD p default).flatMap (aL 0) from rfl] at hAl2 u1';generalize hY:X.getD p default=Y at *;clear zz;have zz:=aI @ME (aI @q0 @zp);repeat' (first|refine zW ?_|apply a_n|refine zO ?_|refine vZ ?_|refine cTZ ?_|fail)
 refine dL (X:=Nat) (λq=>[(1,.ptr 0 8 0),(3,aW (A2++(Y.take q).flatMap (aL 0))),(6,.int .i64 k),(7,.int .i64 p),(8,.int .i64 q)]) (λq H nx=>q<=Y.length/\H 0=some [AV.int IntKind.i64 m.n,AV.int IntKind.i64 m.rounds,AV.int IntKind.i64 m.ins,AV.int IntKind.i64 m.outs,aF m.first,b9 S,bh m.steps,aN O]) (λq=>Y.length-q) 0 ⟨bZ _,q0⟩ (by rw[List.take_zero,List.flatMap_nil,kp];(iterate 5 refine And.intro rfl ?_);trivial) ?_;rintro q H nx ⟨h3,q0⟩;by_cases hq:q<Y.length
 rotate_left
 ·have zq:decide ((q:Int)<m.n)=false:=bq (by omega);rw[gP (by omega),<-u1'];clear zz;have zz:=aI @ME (aI @q0 @zq);repeat' (first|refine zW ?_|apply a_n|apply a_x|refine zO ?_|refine vZ ?_|refine cFZ ?_|fail)
  exact⟨p+1,by omega,⟨by omega,q0⟩,ag0⟩
 have zq:decide ((q:Int)<m.n)=true:=bk (by omega);obtain⟨v1,v2⟩:=jQ Y (aL 0) hq;have h8:=hy8 _ (aj hq);have hv:=hyv q hq;have n2:=iB (Y.getD q default) 0 (by omega) (by omega) (λx hx=>by have:=hv x hx;omega);have s2:=dQ (a:=A2++(Y.take q).flatMap (aL 0)) (b:=aL 0 (Y.getD q default)) (by rw[cm];omega);rw[f8,<-v1] at s2;generalize hB:A2++(Y.take (q+1)).flatMap (aL 0)=B at *;generalize A2++(Y.take q).flatMap (aL 0)=A3 at *;generalize hV2:aL 0 (Y.getD q default)=V2 at *;generalize hYq:Y.getD q default=Yq at *;clear zz;have zz:=aI @ME (aI @q0 (aI @zq (aI @hX (aI @hY (aI @hYq @s2)))));repeat' (first|refine zW ?_|apply a_n|refine zO ?_|refine vZ ?_|refine cZ ?_ (hp:=n2) (hs:=by(first|refine aq ?_ rfl|apply az);(repeat' (first|exact ar|apply aO|apply ay|exact cW _));first|done|fail)|refine cTZ ?_|fail)
 exact⟨q+1,by omega,⟨by omega,q0⟩,by rw[hB];simp (disch:=omega) only[agr,ZG,reduceEqDiff,↓reduceIte]⟩
theorem Ay(m:MachV)(hg:GoodM m):pU 47 [bV m] (aW (aL 0 [(m.steps.length:Int)]++m.steps.flatMap (eh m.n.toNat))):=by
 refine pO D7 ?_;simp only[b47,aS];have hn:=hg.n;have hsl:=hg.sl;have hbl:=me hg;have gst:=λi(hi:i<m.steps.length)=>rU hg (aj hi);have e0:aL 0 [(m.steps.length:Int)]=dq ((m.steps.length:Int)).toNat:=by rw[lC,Int.add_zero]
 have n0:=jv (m.steps.length:Int) (by omega);rw[<-e0] at n0;unfold bV MachV.cells;generalize hT:m.steps=T at *;generalize hV0:aL 0 [(T.length:Int)]=V0 at *;have zz:=aI @ME @mW;repeat' (first|refine zW ?_|apply a_n|refine zO ?_|refine vZ ?_|refine cZ ?_ (hp:=n0)|refine bxZ ?_|fail)
 refine dL (X:=Nat) (λi=>[(1,.ptr 0 8 0),(3,aW (V0++(T.take i).flatMap (eh m.n.toNat))),(4,.int .i64 i)]) (λi H nx=>i<=T.length/\1<=nx/\H 0=some [AV.int IntKind.i64 m.n,AV.int IntKind.i64 m.rounds,AV.int IntKind.i64 m.ins,AV.int IntKind.i64 m.outs,aF m.first,b9 m.symbols,bh T,aN m.out]) (λi=>T.length-i) 0 ⟨bZ _,by omega,ag⟩ (by rw[List.take_zero,List.flatMap_nil,kp];(iterate 3 refine And.intro rfl ?_);trivial) ?_;rintro i H nx ⟨h1,hnx,q0⟩;by_cases hi:i<T.length
 rotate_left
 ·have z:decide ((i:Int)<T.length)=false:=bq (by omega);rw[gP (by omega)];clear zz;have zz:=aI @ME (aI @q0 @z);repeat' (first|refine zW ?_|apply a_n|apply a_x|refine zO ?_|refine vZ ?_|refine cFZ ?_|refine ae rfl ?_|refine r1Z ?_|fail)
  exact bv _ _
 have z:decide ((i:Int)<T.length)=true:=bk (by omega);obtain⟨t1,t2⟩:=jQ T (eh m.n.toNat) hi;obtain⟨g1,g2,g3,g4⟩:=gst i hi;generalize hX:T.getD i default=x at *
 have hsb:eh m.n.toNat x=dq x.round.toNat++dq x.proc.toNat++aL 1 (x.heard.take m.n.toNat)++dq x.to.toNat:=by
  unfold eh;rw[wg,lC,lC,Int.add_zero,Int.add_zero,Int.add_zero]
 have hh:x.heard=[x.h0,x.h1,x.h2,x.h3,x.h4]:=rfl
 have hvT:∀v∈x.heard.take m.n.toNat,0<=v+1/\v+1<=4611686018427387904:=λv hv=>by
  obtain⟨q,hq,rfl⟩:=ft hv;rw[gN] at hq;rw[nP (by omega)];have:=g4 q (by omega);omega
 have n1:=jv x.round (by omega);have n2:=jv x.proc (by omega);have n3:=iB (x.heard.take m.n.toNat) 1 (by rw[gN,hh];simp;omega) (by omega) hvT;have n4:=jv x.to (by omega);rw[hsb] at t1 t2;simp only[cm] at t2
 have hV0l:(V0++(T.take i).flatMap (eh m.n.toNat)).length+((dq x.round.toNat).length+(dq x.proc.toNat).length+(aL 1 (x.heard.take m.n.toNat)).length+(dq x.to.toNat).length)<=1000000000:=by
  simp only[cm] at hbl |-;omega
 have t1':V0++(T.take (i+1)).flatMap (eh m.n.toNat)=(V0++(T.take i).flatMap (eh m.n.toNat))++(dq x.round.toNat++dq x.proc.toNat++aL 1 (x.heard.take m.n.toNat)++dq x.to.toNat):=by rw[t1];simp only[f8]
 generalize hA:V0++(T.take i).flatMap (eh m.n.toNat)=A at *;clear zz;clear t1 t2 hsb;have w1:=dQ (a:=dq x.round.toNat) (b:=dq x.proc.toNat) (by omega);have w2:=dQ (a:=dq x.round.toNat++dq x.proc.toNat) (b:=aL 1 (x.heard.take m.n.toNat)) (by simp only[cm];omega);have w3:=dQ (a:=dq x.round.toNat++dq x.proc.toNat++aL 1 (x.heard.take m.n.toNat)) (b:=dq x.to.toNat) (by simp only[cm];omega);have w4:=dQ (a:=A) (b:=dq x.round.toNat++dq x.proc.toNat++aL 1 (x.heard.take m.n.toNat)++dq x.to.toNat) (by simp only[cm];omega);rw[<-t1'] at w4;generalize hB:V0++(T.take (i+1)).flatMap (eh m.n.toNat)=B at *;generalize dq x.round.toNat=Va at *;generalize dq x.proc.toNat=Vb at *;generalize aL 1 (x.heard.take m.n.toNat)=Vc at *;generalize dq x.to.toNat=Vd at *;rw[hh] at n3;have zz:=aI @ME (aI @q0 (aI @z (aI @hX @vT)));repeat' (first|refine zW ?_|apply a_n|refine zO ?_|refine vZ ?_|refine alZ ?_|refine stZ ?_|refine cTZ ?_|fail)
 have q1:ah (ah H nx [AV.int IntKind.i64 0,AV.int IntKind.i64 0,AV.int IntKind.i64 0,AV.int IntKind.i64 0,AV.int IntKind.i64 0,AV.int IntKind.i64 0,AV.int IntKind.i64 0,AV.int IntKind.i64 0]) nx (dr [AV.int IntKind.i64 0,AV.int IntKind.i64 0,AV.int IntKind.i64 0,AV.int IntKind.i64 0,AV.int IntKind.i64 0,AV.int IntKind.i64 0,AV.int IntKind.i64 0,AV.int IntKind.i64 0] 0 x.cells) nx=some x.cells:=by rw[ag];rfl
 have q2:ah (ah H nx [AV.int IntKind.i64 0,AV.int IntKind.i64 0,AV.int IntKind.i64 0,AV.int IntKind.i64 0,AV.int IntKind.i64 0,AV.int IntKind.i64 0,AV.int IntKind.i64 0,AV.int IntKind.i64 0]) nx (dr [AV.int IntKind.i64 0,AV.int IntKind.i64 0,AV.int IntKind.i64 0,AV.int IntKind.i64 0,AV.int IntKind.i64 0,AV.int IntKind.i64 0,AV.int IntKind.i64 0,AV.int IntKind.i64 0] 0 x.cells) 0=some [AV.int IntKind.i64 m.n,AV.int IntKind.i64 m.rounds,AV.int IntKind.i64 m.ins,AV.int IntKind.i64 m.outs,aF m.first,b9 m.symbols,bh T,aN m.out]:=by rw[ac (by omega),ac (by omega)];exact q0
 unfold StepV.cells at q1 q2;generalize ah (ah H nx [AV.int IntKind.i64 0,AV.int IntKind.i64 0,AV.int IntKind.i64 0,AV.int IntKind.i64 0,AV.int IntKind.i64 0,AV.int IntKind.i64 0,AV.int IntKind.i64 0,AV.int IntKind.i64 0]) nx (dr [AV.int IntKind.i64 0,AV.int IntKind.i64 0,AV.int IntKind.i64 0,AV.int IntKind.i64 0,AV.int IntKind.i64 0,AV.int IntKind.i64 0,AV.int IntKind.i64 0,AV.int IntKind.i64 0] 0 [AV.int IntKind.i64 x.round,AV.int IntKind.i64 x.proc,AV.int IntKind.i64 x.h0,AV.int IntKind.i64 x.h1,AV.int IntKind.i64 x.h2,AV.int IntKind.i64 x.h3,AV.int IntKind.i64 x.h4,AV.int IntKind.i64 x.to])=H1 at *;refine vj (only nx x.cells) _ [(1,.ptr 0 8 0),(3,aW A),(4,.int .i64 i),(5,.iptr x.cells 0)] (Fz.one q1) ⟨.inl ev0,.inl ev0,.inl ev0,.inr ?_,trivial⟩ ?_
 ·((try simp only[bS,ZA,reduceEqDiff,↓reduceIte,reduceAdd,reduceLeDiff]);(try with_reducible rfl))
  exact gu (cs:=x.cells) j7 rfl (dV (fp x))
 have q3:e8 H1 nx 0=some [AV.int IntKind.i64 m.n,AV.int IntKind.i64 m.rounds,AV.int IntKind.i64 m.ins,AV.int IntKind.i64 m.outs,aF m.first,b9 m.symbols,bh T,aN m.out]:=by rw[nf (by omega)];exact q2
 generalize e8 H1 nx=H2 at *;unfold StepV.cells;clear zz;have zz:=aI @ME (aI @q3 (aI (sY (show 0<=m.n/\m.n<=5 by omega)) (aI @w1 (aI @w2 (aI @w3 @w4)))));repeat' (first|apply a_n|refine zO ?_|refine vZ ?_|refine cZ ?_ (hp:=by first|exact n1|exact n2|exact n3|exact n4) (hs:=by(first|refine aq ?_ rfl|apply az);(repeat' (first|exact ar|apply aO|apply ay|exact cW _));first|done|fail)|fail)
 exact⟨i+1,by omega,⟨by omega,by omega,q3⟩,by rw[hB];simp (disch:=omega) only[agr,ZG,reduceEqDiff,↓reduceIte]⟩
theorem pX(m:MachV)(hs:ShM m):pU 20 [bV m] (.tup [aW (dX m).1,.int .i64 (dX m).2]):=by
 refine pO DW ?_;simp only[b20,aS];have hp:=AD m hs;have em:=cp m;have e0:aW []=.str ⟨⟨[]⟩⟩:=rfl;by_cases h0:dx m=0
 rotate_left
 ·have e:dX m=([],dx m):=by unfold dX;rw[if_pos h0]
  have hz:decide (dx m≠0)=true:=bk h0;rw[e,e0];unfold bV MachV.cells at hp em |-;have zz:=aI @ME @hz;repeat' (first|refine zW ?_|apply a_n|apply a_r|refine zO ?_|refine vZ ?_|refine cZ ?_ (hp:=hp)|refine bxZ ?_|refine cTZ ?_|refine ae rfl ?_|refine r2Z ?_|fail)
  exact(Dat.tup (DatL.cons Dat.str (DatL.cons .int DatL.nil))) _
 have hg:=mL h0;have n1:=BI m hg;have n2:=za m hg;have n3:=Ay m hg;have hwl:=mE hg;have hbl:=me hg;have z0:decide ((0:Int)≠0)=false:=rfl;rw[h0] at hp;have e:dX m=if 65536<(bM m).length then([],13) else(bM m,0):=by unfold dX;rw[if_neg (by simpa using h0)]
 rw[e];clear e;have hb:kQ m=(jx m++m.first.flatMap (aL 1))++(m.out.flatMap fk++m.symbols.flatMap eK)++(aL 0 [(m.steps.length:Int)]++m.steps.flatMap (eh m.n.toNat)):=by unfold kQ;simp only[f8]
 have n4:=tW (kQ m) (by have:=jj hg;omega);rw[show kB (kQ m)=bM m from rfl,hb] at n4;clear hb;have hb2:(jx m++m.first.flatMap (aL 1)).length+(m.out.flatMap fk++m.symbols.flatMap eK).length+(aL 0 [(m.steps.length:Int)]++m.steps.flatMap (eh m.n.toNat)).length<=1000000000:=by simp only[cm] at hbl |-;omega
 clear hbl;generalize jx m++m.first.flatMap (aL 1)=P1 at *
 generalize aL 0 [(m.steps.length:Int)]++m.steps.flatMap (eh m.n.toNat)=P3 at *;generalize m.out.flatMap fk++m.symbols.flatMap eK=P2 at *;generalize bM m=W at *;have w1:=dQ (a:=P1) (b:=P2) (by omega);have w2:=dQ (a:=P1++P2) (b:=P3) (by rw[cm];omega);unfold bV MachV.cells at hp em n1 n2 n3 |-;by_cases hl:65536<W.length
 ·rw[if_pos hl];have z:decide ((65536:Int)<W.length)=true:=bk (by omega);have zz:=aI @ME (aI @z0 (aI @z (aI @aH (aI @w1 @w2))));repeat' (first|refine zW ?_|refine zM ?_|apply a_n|apply a_r|refine zO ?_|refine vZ ?_|refine cZ ?_ (hp:=by first|exact hp|exact n1|exact n2|exact n3|exact n4) (hs:=by(first|refine aq ?_ rfl|apply az);(repeat' (first|exact ar|apply aO|apply ay|exact em|exact bv _));first|done|fail)|refine bxZ ?_|refine cTZ ?_|refine cFZ ?_|refine ae rfl ?_|refine r2Z ?_|fail)
  exact(Dat.tup (DatL.cons Dat.str (DatL.cons .int DatL.nil))) _
 ·rw[if_neg hl];have z:decide ((65536:Int)<W.length)=false:=bq (by omega);have zz:=aI @ME (aI @z0 (aI @z (aI @aH (aI @w1 @w2))));repeat' (first|refine zW ?_|refine zM ?_|apply a_n|refine zO ?_|refine vZ ?_|refine cZ ?_ (hp:=by first|exact hp|exact n1|exact n2|exact n3|exact n4) (hs:=by(first|refine aq ?_ rfl|apply az);(repeat' (first|exact ar|apply aO|apply ay|exact em|exact bv _));first|done|fail)|refine bxZ ?_|refine cFZ ?_|refine ae rfl ?_|refine r2Z ?_|fail)
  exact(Dat.tup (DatL.cons (bv _) (DatL.cons .int DatL.nil))) _
theorem po(b:Nat)(B:List UInt8)(at_:Nat)(bad:Bool)(n sub:Int)(H:Hp)(nx:Nat)(hb:H b=some (rdC B at_ bad))(hlt:b<nx)(hl:B.length<=1000000000)(hat:at_<=B.length)(hn:n<=300000000)(hsub:0<=sub/\sub<=1):
    Abs.Fn Try.prog 79 [.ptr b 3 0,.int .i64 n,.int .i64 sub] H nx λr H' nx'=>H' b=some (rdC B (cA B sub n.toNat at_ bad).2.1 (cA B sub n.toNat at_ bad).2.2)/\Row H' 1 r ((cA B sub n.toNat at_ bad).1.map (AV.int .i64))/\nx<=nx'/\(∀i,i<nx->i≠b->H' i=H i)/\(∀i,aY r=some i->nx<=i/\i<nx'):=by
 refine fO C7 ?_;simp only[b79,aS];unfold rdC at *
 repeat' (first|refine zW ?_|apply a_n|refine zO ?_|refine vZ ?_|fail)
 refine dL (X:=AV×Nat×List Int×Nat×Bool) (λx=>[(0,.ptr b 3 0),(1,.int .i64 n),(2,.int .i64 sub),(7,x.1),(8,.int .i64 x.2.1)])
  (fun x H' nx'=>x.2.1 ≤ n.toNat∧H' b=some [aW B,.int .i64 (x.2.2.2.1:Int),.bool x.2.2.2.2]∧x.2.2.2.1 ≤ B.length∧x.2.2.1.length ≤ x.2.1∧nx ≤ nx'∧Row H' 1 x.1 (x.2.2.1.map (AV.int .i64))∧(∀ i,aY x.1=some i→nx ≤ i∧i < nx')∧(∀ i,i < nx→i ≠ b→H' i=H i) ∧
   cA B sub n.toNat at_ bad=(x.2.2.1++(cA B sub (n.toNat-x.2.1) x.2.2.2.1 x.2.2.2.2).1,(cA B sub (n.toNat-x.2.1) x.2.2.2.1 x.2.2.2.2).2)) (λx=>n.toNat-x.2.1) (.esl,0,[],at_,bad)
  ⟨bZ _,hb,hat,bZ _,bj _,Row.nil,λi h=>(by cases h),λ_ _ _=>rfl,by simp⟩ ag0 ?_
 rintro⟨s,k,l,p,bd⟩ H1 nx1 ⟨k1,k2,k3,k4,k5,k6,k7,k8,k9⟩;dsimp only at k1 k2 k3 k4 k6 k7 k9 |-;by_cases hgo:k<n.toNat/\bd=false
 rotate_left
 ·have hfin:cA B sub (n.toNat-k) p bd=([],p,bd):=by
    cases bd with
    |true=>exact ir _ _ _ _
    |false=>
     have:¬k<n.toNat:=λh=>hgo ⟨h,rfl⟩;rw[show n.toNat-k=0 by omega];rfl
  rw[hfin,kp] at k9;rw[k9];by_cases hk:k<n.toNat
  ·have hbd:bd=true:=by simpa using λh=>hgo ⟨hk,h⟩
   subst hbd;have zz:=aI @NK (aI @k2 (aI @aB (aI @aP @bm)));repeat' (first|refine zW ?_|apply a_n|apply a_x|refine zO ?_|refine vZ ?_|refine gTZ ?_|(refine zGZ ?_ ?_<;>(intro _hg;try (exfalso;omega)))|refine cFZ ?_|refine ae rfl ?_|refine r1Z ?_|fail)
   exact⟨k2,k6,k5,k8,k7⟩
  ·have zz:=aI @NK (aI @k2 (aI @aB (aI @aP @bm)));repeat' (first|refine zW ?_|apply a_n|apply a_x|refine zO ?_|refine vZ ?_|refine gFZ ?_|(refine zGZ ?_ ?_<;>(intro _hg;try (exfalso;omega)))|refine cFZ ?_|refine ae rfl ?_|refine r1Z ?_|fail)
   all_goals exact⟨k2,k6,k5,k8,k7⟩
 obtain⟨hk,rfl⟩:=hgo;obtain⟨q,hq⟩:∃q,n.toNat-k=q+1:=⟨n.toNat-k-1,by omega⟩
 rw[hq,jU] at k9;have hbd:=dP B p false;have hat2:=da (bad:=false) k3;have hone:=k6.one;have zz:=aI @NK (aI @k2 (aI @aB (aI @aP @bm)));repeat' (first|refine zW ?_|apply a_n|refine zO ?_|refine vZ ?_|refine gTZ ?_|(refine zGZ ?_ ?_<;>(intro _hg;try (exfalso;omega)))|refine cTZ ?_|fail)
 refine aK ev0 ev0 (iI b B p false H1 nx1 k2 hl k3) ?_;rintro r H2 nx2 ⟨rfl,rfl,rfl⟩;unfold aG at k9;generalize hnx:br B p false=res at *;obtain⟨v,p',bd'⟩:=res;dsimp only at k9 hbd hat2 |-;clear zz;have zz:=aI hone.1 hone.2;repeat' (first|apply a_n|refine zO ?_|refine vY ?_|refine blY ?_|fail)
 have hll:(l.map (AV.int .i64)).length=l.length:=eG _
 have hr6:Row (ah (ah H1 b [aW B,.int .i64 (p':Int),.bool bd']) nx2 [.int .i64 ((v:Int)-sub)]) 1 s (l.map (AV.int .i64)):=k6.same λi hi=>by
  have:=k7 i hi;rw[ac (by omega),ac (by omega)]
 refine eL (k:=1) (new:=[.int .i64 ((v:Int) - sub)]) rfl ev0 hr6 ev0 (by
  have:=jB (H:=ah (ah H1 b [aW B,.int .i64 (p':Int),.bool bd']) nx2 [.int .i64 ((v:Int)-sub)]) (sz:=1) (b:=nx2) (n:=1) (off:=0) (len:=1) (cs:=[.int .i64 ((v:Int)-sub)]) ag rfl (by omega);exact this) rfl rfl f6 (by rw[hll];omega) (by rw[hll];omega) ?_
 rintro s' H3 nx3 hrow j1 j2 j3 j4;have hone':=hrow.one;clear zz;have zz:=aI hone'.1 hone'.2;repeat' (first|apply a_n|refine zO ?_|refine vY ?_|fail)
 refine⟨(s',k+1,l++[(v:Int)-sub],p',bd'),by dsimp only;omega,⟨by dsimp only;omega,?_,?_,?_,?_,?_,?_,?_,?_⟩,ag0⟩
 all_goals try dsimp only
 ·have hnr:aY s≠some b:=λh=>by have:=k7 b h;omega
  rw[j3 b (by omega) hnr,ac (by omega),ag]
 ·omega
 ·rw[cm,List.length_singleton];omega
 ·omega
 ·rw[eU];exact hrow
 ·intro i hi;rcases j4 i hi with h|h
  ·have:=k7 i h;omega
  ·omega
 ·intro i hi hib;rw[j3 i (by omega) (λh=>by have:=k7 i h;omega),ac (by omega),ac (by omega)];exact k8 i hi hib
 ·rw[k9,show n.toNat-(k+1)=q by omega,f8];rfl
theorem AH(b:Nat)(B:List UInt8)(at_:Nat)(bad:Bool)(n r i o:Int)(F:List (List Int))(H:Hp)(nx:Nat)(hb:H b=some (rdC B at_ bad))(hlt:b<nx)(hl:B.length<=1000000000)(hat:at_<=B.length)(hn:0<=n/\n<=300000000)(hr:0<=r/\r<=300000000):
    Abs.Fn Try.prog 50 [.ptr b 3 0,.agg [.int .i64 n,.int .i64 r,.int .i64 i,.int .i64 o,aF F,.esl,.esl,.esl]] H nx λx H' nx'=>H' b=some (rdC B (fF B n r at_ bad).2.1 (fF B n r at_ bad).2.2)/\Row H' 1 x ((fF B n r at_ bad).1.map aF)/\nx<=nx'/\(∀i,i<nx->i≠b->H' i=H i)/\(∀i,aY x=some i->nx<=i/\i<nx'):=by
 refine fO Dv ?_;simp only[b50,aS];unfold fF;have zz:=@ME;repeat' (first|refine zW ?_|apply a_n|refine zO ?_|refine vZ ?_|refine bxZ ?_|fail)
 refine iV (X:=Nat×AV) (λx=>[(0,.ptr b 3 0),(3,.ptr nx 8 0),(5,x.2),(6,.int .i64 x.1)]) (λx H1 nx1=>x.1<=(r+1).toNat/\QH b (rdC B (qI (λ_=>fP B n.toNat) x.1 at_ bad).2.1 (qI (λ_=>fP B n.toNat) x.1 at_ bad).2.2) x.2 ((qI (λ_=>fP B n.toNat) x.1 at_ bad).1.map aF) (nx+1) (ah H nx [.int .i64 n,.int .i64 r,.int .i64 i,.int .i64 o,aF F,.esl,.esl,.esl]) H1 nx1) (λx=>(r+1).toNat-x.1) (0,.esl)
  ⟨_,_,Fz.none,⟨bZ _,⟨by rw[ac (by omega)];exact hb,Row.nil,λx h=>(by cases h),bj _,λ_ _ _=>rfl⟩⟩,bz (by(iterate 4 refine And.intro rfl ?_);trivial)⟩ ?_
 rintro⟨k,s⟩ H1 nx1 ⟨k1,hQ⟩;dsimp only at k1 hQ |-;have hend:=n6 (λ_=>fP B n.toNat) (at_:=at_) (bad:=bad) k1;have hsucc:=λh=>gq (λ_=>fP B n.toNat) (k:=k) (at_:=at_) (bad:=bad) h;have hat1:=jf (B:=B) (λ_ _ h=>rK (n:=n.toNat) h) k (bad:=bad) hat;have hlen:=(j8 (λ_=>fP B n.toNat) k at_ bad).1;generalize hst:qI (λ_=>fP B n.toNat) k at_ bad=st at *;obtain⟨O,p,bd⟩:=st;dsimp only at hQ hend hsucc hat1 hlen;have hm:=(hQ.fr nx (by omega) (by omega)).trans ag;have hrd:=hQ.rd;unfold rdC at hrd;have hone:=hQ.row.one;by_cases hgo:k<(r+1).toNat/\bd=false
 rotate_left
 ·rw[hend hgo];have fin:=(show _/\_/\_/\_/\_ from⟨hQ.rd,hQ.row,(show nx<=nx1 by have:=hQ.lt;omega),(λi hi hib=>(hQ.fr i (by omega) hib).trans (ac (by omega)):∀i,i<nx->i≠b->H1 i=H i),(λx hx=>by have:=hQ.rlt x hx;omega:∀i,aY s=some i->nx<=i/\i<nx1)⟩)
  by_cases hk:k<(r+1).toNat
  ·have hbd:bd=true:=by simpa using λh=>hgo ⟨hk,h⟩
   subst hbd;have z:decide ((k:Int)<=r)=true:=bk (by omega);clear zz;have zz:=aI @NK (aI @ME (aI @hm (aI @hrd (aI @z (aI @aB (aI @aP @bm))))));repeat' (first|refine zW ?_|apply a_n|apply a_x|refine zO ?_|refine vY ?_|refine gTY ?_|refine cFY ?_|refine ae rfl ?_|refine r1Y ?_|fail)
   exact fin
  ·have z:decide ((k:Int)<=r)=false:=bq (by omega);clear zz;have zz:=aI @NK (aI @ME (aI @hm (aI @hrd (aI @z (aI @aB (aI @aP @bm))))));repeat' (first|refine zW ?_|apply a_n|apply a_x|refine zO ?_|refine vY ?_|refine gFY ?_|refine cFY ?_|refine ae rfl ?_|refine r1Y ?_|fail)
   exact fin
 obtain⟨hk,rfl⟩:=hgo;have z:decide ((k:Int)<=r)=true:=bk (by omega);have hsu:=hsucc rfl;clear zz;clear hend hsucc;have hle:=hQ.lt;have zz:=aI @NK (aI @ME (aI @hm (aI @hrd (aI @z (aI @aB (aI @aP @bm))))));repeat' (first|refine zW ?_|apply a_n|refine zO ?_|refine vY ?_|refine gTY ?_|refine cTY ?_|fail)
 refine iV (X:=Nat×AV) (λx=>[(0,.ptr b 3 0),(3,.ptr nx 8 0),(5,s),(6,.int .i64 k),(7,x.2),(8,.int .i64 x.1)]) (λx H2 nx2=>x.1<=n.toNat/\QH b (rdC B (qI (λ_=>o5 B) x.1 p false).2.1 (qI (λ_=>o5 B) x.1 p false).2.2) x.2 ((qI (λ_=>o5 B) x.1 p false).1.map be) nx1 H1 H2 nx2) (λx=>n.toNat-x.1) (0,.esl)
  ⟨_,_,Fz.none,⟨bZ _,⟨hQ.rd,Row.nil,λx h=>(by cases h),bj _,λ_ _ _=>rfl⟩⟩,bz ag0⟩ ?_
 rintro⟨j,t⟩ H2 nx2 ⟨j1,hT⟩;dsimp only at j1 hT |-;have hend:=n6 (λ_=>o5 B) (at_:=p) (bad:=false) j1;have hsucc:=λh=>gq (λ_=>o5 B) (k:=j) (at_:=p) (bad:=false) h;have hat2:=jf (B:=B) (λ_ _ h=>xk h) j (bad:=false) hat1;have hlen2:=(j8 (λ_=>o5 B) j p false).1;generalize hst2:qI (λ_=>o5 B) j p false=st2 at *;obtain⟨L,p2,bd2⟩:=st2;dsimp only at hT hend hsucc hat2 hlen2;have hle2:=hT.lt;have hm2:=(hT.fr nx (by omega) (by omega)).trans hm;have hrd2:=hT.rd;unfold rdC at hrd2;have honet:=hT.row.one;by_cases hgo:j<n.toNat/\bd2=false
 rotate_left
 ·have hQ2:=hQ.step (rc':=rdC B p2 bd2) (by omega) hT.rd hT.fr hle2;have hrnd:fP B n.toNat p false=(L,p2,bd2):=hend hgo;by_cases hj:j<n.toNat
  ·have hbd:bd2=true:=by simpa using λh=>hgo ⟨hj,h⟩
   subst hbd;have z2:decide ((j:Int)<n)=true:=bk (by omega);clear zz;have zz:=aI @NK (aI @ME (aI @hm2 (aI @hrd2 (aI @z2 (aI @aB (aI @aP (aI honet.1 (aI honet.2 @bm))))))));repeat' (first|refine zW ?_|apply a_n|apply a_x|refine zO ?_|refine vY ?_|refine blY ?_|refine gTY ?_|refine cFY ?_|fail)
   have hr2:=hQ2.row;refine eL (k:=1) (new:=[t]) rfl ev0 (hr2.same λy hy=>ac (by have:=hQ2.rlt y hy;omega)) ev0 dB (by simp[AV.ones,honet.1]) rfl f6 (by rw[eG];omega) (by rw[eG];omega) ?_;rintro s' H3 nx3 hrow i1 _ i3 i4;obtain⟨Hf,H'',f1,f2⟩:=hQ2.push (v:=t) (v':=aF L) (by omega) (λy hy=>⟨by have:=hT.rlt y hy;omega,by have:=hT.rlt y hy;omega,λh=>by have:=hQ.rlt y h;have:=hT.rlt y hy;omega⟩) (λHf hf=>(hT.row.same hf).snapV) hrow i1 i3 i4
   repeat' (first|apply a_n|refine zO ?_|refine vZ ?_|fail)
   refine⟨(k+1,s'),by dsimp only;omega,Hf,H'',f1,⟨by dsimp only;omega,?_⟩,bz ag0⟩;dsimp only;rw[hsu];dsimp only;rw[hrnd,eU];exact f2
  ·have z2:decide ((j:Int)<n)=false:=bq (by omega);clear zz;have zz:=aI @NK (aI @ME (aI @hm2 (aI @hrd2 (aI @z2 (aI @aB (aI @aP (aI honet.1 (aI honet.2 @bm))))))));repeat' (first|refine zW ?_|apply a_n|apply a_x|refine zO ?_|refine vY ?_|refine blY ?_|refine gFY ?_|refine cFY ?_|fail)
   have hr2:=hQ2.row;refine eL (k:=1) (new:=[t]) rfl ev0 (hr2.same λy hy=>ac (by have:=hQ2.rlt y hy;omega)) ev0 dB (by simp[AV.ones,honet.1]) rfl f6 (by rw[eG];omega) (by rw[eG];omega) ?_;rintro s' H3 nx3 hrow i1 _ i3 i4;obtain⟨Hf,H'',f1,f2⟩:=hQ2.push (v:=t) (v':=aF L) (by omega) (λy hy=>⟨by have:=hT.rlt y hy;omega,by have:=hT.rlt y hy;omega,λh=>by have:=hQ.rlt y h;have:=hT.rlt y hy;omega⟩) (λHf hf=>(hT.row.same hf).snapV) hrow i1 i3 i4
   repeat' (first|apply a_n|refine zO ?_|refine vZ ?_|fail)
   refine⟨(k+1,s'),by dsimp only;omega,Hf,H'',f1,⟨by dsimp only;omega,?_⟩,bz ag0⟩;dsimp only;rw[hsu];dsimp only;rw[hrnd,eU];exact f2
 obtain⟨hj,rfl⟩:=hgo;have z2:decide ((j:Int)<n)=true:=bk (by omega);have hsu2:=hsucc rfl;clear zz;clear hend hsucc;have hnb:=dP B p2 false;have hna:=da (bad:=false) hat2;have zz:=aI @NK (aI @ME (aI @hm2 (aI @hrd2 (aI @z2 (aI @aB (aI @aP @bm))))));repeat' (first|refine zW ?_|apply a_n|refine zO ?_|refine vY ?_|refine gTY ?_|refine cTY ?_|fail)
 refine aK ev0 ev0 (iI b B p2 false H2 nx2 hrd2 hl hat2) ?_;rintro _ H3 nx3 ⟨rfl,rfl,rfl⟩
 skip
 refine aK ev0 ev0 (po b B (br B p2 false).2.1 (br B p2 false).2.2 ((br B p2 false).1:Int) 1 _ _ (by unfold rdC;exact ag) (by omega) hl hna (by omega) (by omega)) ?_;rintro v H4 nx4 ⟨q1,q2,q3,q4,q5⟩;have hT2:=hT.step (H':=H4) (nx':=nx4) (by omega) q1 (λy hy hyb=>by rw[q4 y hy hyb,ac hyb]) q3;have hvo:=q2.one;have hr2:=hT2.row;clear zz;have zz:=aI hvo.1 hvo.2;repeat' (first|apply a_n|refine zO ?_|refine blY ?_|fail)
 refine eL (k:=1) (new:=[v]) rfl ev0 (hr2.same λy hy=>ac (by have:=hT2.rlt y hy;omega)) ev0 dB (by simp[AV.ones,hvo.1]) rfl f6 (by rw[eG];omega) (by rw[eG];omega) ?_;rintro t' H5 nx5 hrow i1 _ i3 i4;obtain⟨Hf,H'',f1,f2⟩:=hT2.push (v':=be (cA B 1 ((br B p2 false).1:Int).toNat (br B p2 false).2.1 (br B p2 false).2.2).1) (by omega) (λy hy=>⟨by have:=q5 y hy;omega,(q5 y hy).2,λh=>by have:=q5 y hy;have:=hT.rlt y h;omega⟩) (λHf hf=>(q2.same hf).snapI) hrow i1 i3 i4
 repeat' (first|apply a_n|refine zO ?_|refine vZ ?_|fail)
 refine⟨(j+1,t'),by dsimp only;omega,Hf,H'',f1,⟨by dsimp only;omega,?_⟩,bz ag0⟩;dsimp only;rw[hsu2,eU];exact f2
theorem Ag(b:Nat)(B:List UInt8)(at_:Nat)(bad:Bool)(n r i o:Int)(F:List (List Int))(O:List (List (List Int)))(H:Hp)(nx:Nat)(hb:H b=some (rdC B at_ bad))(hlt:b<nx)(hl:B.length<=1000000000)(hat:at_<=B.length)(hn:0<=n/\n<=300000000)(hr:0<=r/\r<=300000000)
    (hO:∀k,k<r.toNat->k<O.length/\(O.getD k default).length=n.toNat) (hOl:∀k p,((O.getD k default).getD p default).length<=300000000) (hOs:O.length<=1000000000):
    Abs.Fn Try.prog 51 [.ptr b 3 0,.agg [.int .i64 n,.int .i64 r,.int .i64 i,.int .i64 o,aF F,.esl,.esl,aN O]] H nx λx H' nx'=>H' b=some (rdC B (lK B n r O at_ bad).2.1 (lK B n r O at_ bad).2.2)/\Row H' 1 x ((lK B n r O at_ bad).1.map aN)/\nx<=nx'/\(∀i,i<nx->i≠b->H' i=H i)/\(∀i,aY x=some i->nx<=i/\i<nx'):=by
 refine fO CR ?_;simp only[b51,aS];unfold lK;have zz:=@ME;repeat' (first|refine zW ?_|apply a_n|refine zO ?_|refine vZ ?_|refine bxZ ?_|fail)
 refine iV (X:=Nat×AV) (λx=>[(0,.ptr b 3 0),(3,.ptr nx 8 0),(5,x.2),(6,.int .i64 x.1)]) (λx H1 nx1=>x.1<=r.toNat/\QH b (rdC B (qI (mG B O n.toNat) x.1 at_ bad).2.1 (qI (mG B O n.toNat) x.1 at_ bad).2.2) x.2 ((qI (mG B O n.toNat) x.1 at_ bad).1.map aN) (nx+1) (ah H nx [.int .i64 n,.int .i64 r,.int .i64 i,.int .i64 o,aF F,.esl,.esl,aN O]) H1 nx1) (λx=>r.toNat-x.1) (0,.esl)
  ⟨_,_,Fz.none,⟨bZ _,⟨by rw[ac (by omega)];exact hb,Row.nil,λx h=>(by cases h),bj _,λ_ _ _=>rfl⟩⟩,bz (by(iterate 4 refine And.intro rfl ?_);trivial)⟩ ?_
 rintro⟨k,s⟩ H1 nx1 ⟨k1,hQ⟩;dsimp only at k1 hQ |-;have hend:=n6 (mG B O n.toNat) (at_:=at_) (bad:=bad) k1;have hsucc:=λh=>gq (mG B O n.toNat) (k:=k) (at_:=at_) (bad:=bad) h;have hat1:=jf (B:=B) (f:=mG B O n.toNat) (λ_ _ h=>xw h) k (bad:=bad) hat;have hlen:=(j8 (mG B O n.toNat) k at_ bad).1;generalize hst:qI (mG B O n.toNat) k at_ bad=st at *;obtain⟨S,a0,bd⟩:=st;dsimp only at hQ hend hsucc hat1 hlen;have hm:=(hQ.fr nx (by omega) (by omega)).trans ag;have hrd:=hQ.rd;unfold rdC at hrd;have hone:=hQ.row.one;by_cases hgo:k<r.toNat/\bd=false
 rotate_left
 ·rw[hend hgo];have fin:=(show _/\_/\_/\_/\_ from⟨hQ.rd,hQ.row,(show nx<=nx1 by have:=hQ.lt;omega),(λi hi hib=>(hQ.fr i (by omega) hib).trans (ac (by omega)):∀i,i<nx->i≠b->H1 i=H i),(λx hx=>by have:=hQ.rlt x hx;omega:∀i,aY s=some i->nx<=i/\i<nx1)⟩)
  by_cases hk:k<r.toNat
  ·have hbd:bd=true:=by simpa using λh=>hgo ⟨hk,h⟩
   subst hbd;have z:decide ((k:Int)<r)=true:=bk (by omega);clear zz;have zz:=aI @NK (aI @ME (aI @hm (aI @hrd (aI @z (aI @aB (aI @aP @bm))))));repeat' (first|refine zW ?_|apply a_n|apply a_x|refine zO ?_|refine vY ?_|refine gTY ?_|refine cFY ?_|refine ae rfl ?_|refine r1Y ?_|fail)
   exact fin
  ·have z:decide ((k:Int)<r)=false:=bq (by omega);clear zz;have zz:=aI @NK (aI @ME (aI @hm (aI @hrd (aI @z (aI @aB (aI @aP @bm))))));repeat' (first|refine zW ?_|apply a_n|apply a_x|refine zO ?_|refine vY ?_|refine gFY ?_|refine cFY ?_|refine ae rfl ?_|refine r1Y ?_|fail)
   exact fin
 obtain⟨hk,rfl⟩:=hgo;have z:decide ((k:Int)<r)=true:=bk (by omega);have hsu:=hsucc rfl;clear zz;clear hend hsucc;have hle:=hQ.lt;obtain⟨hOk,hOn⟩:=hO k hk;have zz:=aI @NK (aI @ME (aI @hm (aI @hrd (aI @z (aI @aB (aI @aP @bm))))));repeat' (first|refine zW ?_|apply a_n|refine zO ?_|refine vY ?_|refine gTY ?_|refine cTY ?_|fail)
 refine iV (X:=Nat×AV) (λx=>[(0,.ptr b 3 0),(3,.ptr nx 8 0),(5,s),(6,.int .i64 k),(7,x.2),(8,.int .i64 x.1)]) (λx H2 nx2=>x.1<=n.toNat/\QH b (rdC B (qI (iS B O n.toNat k) x.1 a0 false).2.1 (qI (iS B O n.toNat k) x.1 a0 false).2.2) x.2 ((qI (iS B O n.toNat k) x.1 a0 false).1.map aF) nx1 H1 H2 nx2) (λx=>n.toNat-x.1) (0,.esl)
  ⟨_,_,Fz.none,⟨bZ _,⟨hQ.rd,Row.nil,λx h=>(by cases h),bj _,λ_ _ _=>rfl⟩⟩,bz ag0⟩ ?_
 rintro⟨p,t⟩ H2 nx2 ⟨j1,hT⟩;dsimp only at j1 hT |-;have hend:=n6 (iS B O n.toNat k) (at_:=a0) (bad:=false) j1;have hsucc:=λh=>gq (iS B O n.toNat k) (k:=p) (at_:=a0) (bad:=false) h;have hat2:=jf (B:=B) (f:=iS B O n.toNat k) (λ_ _ h=>uj h) p (bad:=false) hat1;have hlen2:=(j8 (iS B O n.toNat k) p a0 false).1;generalize hst2:qI (iS B O n.toNat k) p a0 false=st2 at *;obtain⟨M,a1,bd2⟩:=st2;dsimp only at hT hend hsucc hat2 hlen2;have hle2:=hT.lt;have hm2:=(hT.fr nx (by omega) (by omega)).trans hm;have hrd2:=hT.rd;unfold rdC at hrd2;have honet:=hT.row.one;by_cases hgo:p<n.toNat/\bd2=false
 rotate_left
 ·have hQ2:=hQ.step (rc':=rdC B a1 bd2) (by omega) hT.rd hT.fr hle2;have hrnd:mG B O n.toNat k a0 false=(M,a1,bd2):=hend hgo;by_cases hj:p<n.toNat
  ·have hbd:bd2=true:=by simpa using λh=>hgo ⟨hj,h⟩
   subst hbd;have z2:decide ((p:Int)<n)=true:=bk (by omega);clear zz;have zz:=aI @NK (aI @ME (aI @hm2 (aI @hrd2 (aI @z2 (aI @aB (aI @aP (aI honet.1 (aI honet.2 @bm))))))));repeat' (first|refine zW ?_|apply a_n|apply a_x|refine zO ?_|refine vY ?_|refine blY ?_|refine gTY ?_|refine cFY ?_|fail)
   have hr2:=hQ2.row;refine eL (k:=1) (new:=[t]) rfl ev0 (hr2.same λy hy=>ac (by have:=hQ2.rlt y hy;omega)) ev0 dB (by simp[AV.ones,honet.1]) rfl f6 (by rw[eG];omega) (by rw[eG];omega) ?_;rintro s' H5 nx5 hrow i1 _ i3 i4;obtain⟨Hf,H'',f1,f2⟩:=hQ2.push (v:=t) (v':=aN M) (by omega) (λy hy=>⟨by have:=hT.rlt y hy;omega,by have:=hT.rlt y hy;omega,λh=>by have:=hQ.rlt y h;have:=hT.rlt y hy;omega⟩) (λHf hf=>je (hT.row.same hf)) hrow i1 i3 i4
   repeat' (first|apply a_n|refine zO ?_|refine vZ ?_|fail)
   refine⟨(k+1,s'),by dsimp only;omega,Hf,H'',f1,⟨by dsimp only;omega,?_⟩,bz ag0⟩;dsimp only;rw[hsu];dsimp only;rw[hrnd,eU];exact f2
  ·have z2:decide ((p:Int)<n)=false:=bq (by omega);clear zz;have zz:=aI @NK (aI @ME (aI @hm2 (aI @hrd2 (aI @z2 (aI @aB (aI @aP (aI honet.1 (aI honet.2 @bm))))))));repeat' (first|refine zW ?_|apply a_n|apply a_x|refine zO ?_|refine vY ?_|refine blY ?_|refine gFY ?_|refine cFY ?_|fail)
   have hr2:=hQ2.row;refine eL (k:=1) (new:=[t]) rfl ev0 (hr2.same λy hy=>ac (by have:=hQ2.rlt y hy;omega)) ev0 dB (by simp[AV.ones,honet.1]) rfl f6 (by rw[eG];omega) (by rw[eG];omega) ?_;rintro s' H5 nx5 hrow i1 _ i3 i4;obtain⟨Hf,H'',f1,f2⟩:=hQ2.push (v:=t) (v':=aN M) (by omega) (λy hy=>⟨by have:=hT.rlt y hy;omega,by have:=hT.rlt y hy;omega,λh=>by have:=hQ.rlt y h;have:=hT.rlt y hy;omega⟩) (λHf hf=>je (hT.row.same hf)) hrow i1 i3 i4
   repeat' (first|apply a_n|refine zO ?_|refine vZ ?_|fail)
   refine⟨(k+1,s'),by dsimp only;omega,Hf,H'',f1,⟨by dsimp only;omega,?_⟩,bz ag0⟩;dsimp only;rw[hsu];dsimp only;rw[hrnd,eU];exact f2
 obtain⟨hj,rfl⟩:=hgo;have z2:decide ((p:Int)<n)=true:=bk (by omega);have hsu2:=hsucc rfl;clear zz;clear hend hsucc;have zz:=aI @NK (aI @ME (aI @hm2 (aI @hrd2 (aI @z2 (aI @aB (aI @aP @bm))))));repeat' (first|refine zW ?_|apply a_n|refine zO ?_|refine vY ?_|refine gTY ?_|refine cTY ?_|fail)
 refine iV (X:=Nat×AV) (λx=>[(0,.ptr b 3 0),(3,.ptr nx 8 0),(5,s),(6,.int .i64 k),(7,t),(8,.int .i64 p),(9,x.2),(10,.int .i64 x.1)]) (λx H3 nx3=>x.1<=n.toNat/\QH b (rdC B (qI (ia B O k p) x.1 a1 false).2.1 (qI (ia B O k p) x.1 a1 false).2.2) x.2 ((qI (ia B O k p) x.1 a1 false).1.map be) nx2 H2 H3 nx3) (λx=>n.toNat-x.1) (0,.esl)
  ⟨_,_,Fz.none,⟨bZ _,⟨hT.rd,Row.nil,λx h=>(by cases h),bj _,λ_ _ _=>rfl⟩⟩,bz ag0⟩ ?_
 rintro⟨q,u⟩ H3 nx3 ⟨l1,hU⟩;dsimp only at l1 hU |-;have hend:=n6 (ia B O k p) (at_:=a1) (bad:=false) l1;have hsucc:=λh=>gq (ia B O k p) (k:=q) (at_:=a1) (bad:=false) h;have hat3:=jf (B:=B) (f:=ia B O k p) (λ_ _ h=>uO h) q (bad:=false) hat2;have hlen3:=(j8 (ia B O k p) q a1 false).1;generalize hst3:qI (ia B O k p) q a1 false=st3 at *;obtain⟨L,a2,bd3⟩:=st3;dsimp only at hU hend hsucc hat3 hlen3;have hle3:=hU.lt;have hm3:=(hU.fr nx (by omega) (by omega)).trans hm2;have hrd3:=hU.rd;unfold rdC at hrd3;have honeu:=hU.row.one;by_cases hgo:q<n.toNat/\bd3=false
 rotate_left
 ·have hT2:=hT.step (rc':=rdC B a2 bd3) (by omega) hU.rd hU.fr hle3;have hrnd:iS B O n.toNat k p a1 false=(L,a2,bd3):=hend hgo;by_cases hj3:q<n.toNat
  ·have hbd:bd3=true:=by simpa using λh=>hgo ⟨hj3,h⟩
   subst hbd;have z3:decide ((q:Int)<n)=true:=bk (by omega);clear zz;have zz:=aI @NK (aI @ME (aI @hm3 (aI @hrd3 (aI @z3 (aI @aB (aI @aP (aI honeu.1 (aI honeu.2 @bm))))))));repeat' (first|refine zW ?_|apply a_n|apply a_x|refine zO ?_|refine vY ?_|refine blY ?_|refine gTY ?_|refine cFY ?_|fail)
   have hr2:=hT2.row;refine eL (k:=1) (new:=[u]) rfl ev0 (hr2.same λy hy=>ac (by have:=hT2.rlt y hy;omega)) ev0 dB (by simp[AV.ones,honeu.1]) rfl f6 (by rw[eG];omega) (by rw[eG];omega) ?_;rintro t' H5 nx5 hrow i1 _ i3 i4;obtain⟨Hf,H'',f1,f2⟩:=hT2.push (v:=u) (v':=aF L) (by omega) (λy hy=>⟨by have:=hU.rlt y hy;omega,by have:=hU.rlt y hy;omega,λh=>by have:=hT.rlt y h;have:=hU.rlt y hy;omega⟩) (λHf hf=>(hU.row.same hf).snapV) hrow i1 i3 i4
   repeat' (first|apply a_n|refine zO ?_|refine vZ ?_|fail)
   refine⟨(p+1,t'),by dsimp only;omega,Hf,H'',f1,⟨by dsimp only;omega,?_⟩,bz ag0⟩;dsimp only;rw[hsu2];dsimp only;rw[hrnd,eU];exact f2
  ·have z3:decide ((q:Int)<n)=false:=bq (by omega);clear zz;have zz:=aI @NK (aI @ME (aI @hm3 (aI @hrd3 (aI @z3 (aI @aB (aI @aP (aI honeu.1 (aI honeu.2 @bm))))))));repeat' (first|refine zW ?_|apply a_n|apply a_x|refine zO ?_|refine vY ?_|refine blY ?_|refine gFY ?_|refine cFY ?_|fail)
   have hr2:=hT2.row;refine eL (k:=1) (new:=[u]) rfl ev0 (hr2.same λy hy=>ac (by have:=hT2.rlt y hy;omega)) ev0 dB (by simp[AV.ones,honeu.1]) rfl f6 (by rw[eG];omega) (by rw[eG];omega) ?_;rintro t' H5 nx5 hrow i1 _ i3 i4;obtain⟨Hf,H'',f1,f2⟩:=hT2.push (v:=u) (v':=aF L) (by omega) (λy hy=>⟨by have:=hU.rlt y hy;omega,by have:=hU.rlt y hy;omega,λh=>by have:=hT.rlt y h;have:=hU.rlt y hy;omega⟩) (λHf hf=>(hU.row.same hf).snapV) hrow i1 i3 i4
   repeat' (first|apply a_n|refine zO ?_|refine vZ ?_|fail)
   refine⟨(p+1,t'),by dsimp only;omega,Hf,H'',f1,⟨by dsimp only;omega,?_⟩,bz ag0⟩;dsimp only;rw[hsu2];dsimp only;rw[hrnd,eU];exact f2
 obtain⟨hj3,rfl⟩:=hgo;have z3:decide ((q:Int)<n)=true:=bk (by omega);have hsu3:=hsucc rfl;clear zz;clear hend hsucc;have hOp:=hOl k p;generalize hOX:O.getD k default=X at *;generalize hXp:X.getD p default=Xp at *;have hrq:ia B O k p q a2 false=cA B 0 (if p=q then 0 else Xp.length) a2 false:=by unfold ia;rw[hOX,hXp]
 rw[hrq] at hsu3;by_cases hpq:p=q
 ·rw[if_pos hpq] at hsu3;have zq:decide ((p:Int)=q)=true:=bk (by omega);have zz:=aI @NK (aI @ME (aI @hm3 (aI @hrd3 (aI @z3 (aI @zq (aI @hOX (aI @hXp (aI @aB (aI @aP @bm)))))))));repeat' (first|refine zW ?_|apply a_n|refine zO ?_|refine vY ?_|refine gTY ?_|refine cTY ?_|fail)
  refine aK ev0 ev0 (po b B a2 false 0 0 H3 nx3 hrd3 (by omega) hl hat3 (by omega) (by omega)) ?_;rw[show(0:Int).toNat=0 from rfl];rintro v H4 nx4 ⟨q1,q2,q3,q4,q5⟩;have hU2:=hU.step (H':=H4) (nx':=nx4) (by omega) q1 q4 q3;have hvo:=q2.one;have hr2:=hU2.row;clear zz;have zz:=aI hvo.1 hvo.2;repeat' (first|apply a_n|refine zO ?_|refine blY ?_|fail)
  refine eL (k:=1) (new:=[v]) rfl ev0 (hr2.same λy hy=>ac (by have:=hU2.rlt y hy;omega)) ev0 dB (by simp[AV.ones,hvo.1]) rfl f6 (by rw[eG];omega) (by rw[eG];omega) ?_;rintro u' H5 nx5 hrow i1 _ i3 i4;obtain⟨Hf,H'',f1,f2⟩:=hU2.push (v':=be (cA B 0 0 a2 false).1) (by omega) (λy hy=>⟨by have:=q5 y hy;omega,(q5 y hy).2,λh=>by have:=q5 y hy;have:=hU.rlt y h;omega⟩) (λHf hf=>(q2.same hf).snapI) hrow i1 i3 i4
  repeat' (first|apply a_n|refine zO ?_|refine vZ ?_|fail)
  refine⟨(q+1,u'),by dsimp only;omega,Hf,H'',f1,⟨by dsimp only;omega,?_⟩,bz ag0⟩;dsimp only;rw[hsu3,eU];exact f2
 ·rw[if_neg hpq] at hsu3;have zq:decide ((p:Int)=q)=false:=bq (by omega);have zz:=aI @NK (aI @ME (aI @hm3 (aI @hrd3 (aI @z3 (aI @zq (aI @hOX (aI @hXp (aI @aB (aI @aP @bm)))))))));repeat' (first|refine zW ?_|apply a_n|refine zO ?_|refine vY ?_|refine gTY ?_|refine cTY ?_|refine cFY ?_|fail)
  refine aK ev0 ev0 (po b B a2 false (Xp.length:Int) 0 H3 nx3 hrd3 (by omega) hl hat3 (by omega) (by omega)) ?_;rw[kK];rintro v H4 nx4 ⟨q1,q2,q3,q4,q5⟩;have hU2:=hU.step (H':=H4) (nx':=nx4) (by omega) q1 q4 q3;have hvo:=q2.one;have hr2:=hU2.row;clear zz;have zz:=aI hvo.1 hvo.2;repeat' (first|apply a_n|refine zO ?_|refine blY ?_|fail)
  refine eL (k:=1) (new:=[v]) rfl ev0 (hr2.same λy hy=>ac (by have:=hU2.rlt y hy;omega)) ev0 dB (by simp[AV.ones,hvo.1]) rfl f6 (by rw[eG];omega) (by rw[eG];omega) ?_;rintro u' H5 nx5 hrow i1 _ i3 i4;obtain⟨Hf,H'',f1,f2⟩:=hU2.push (v':=be (cA B 0 Xp.length a2 false).1) (by omega) (λy hy=>⟨by have:=q5 y hy;omega,(q5 y hy).2,λh=>by have:=q5 y hy;have:=hU.rlt y h;omega⟩) (λHf hf=>(q2.same hf).snapI) hrow i1 i3 i4
  repeat' (first|apply a_n|refine zO ?_|refine vZ ?_|fail)
  refine⟨(q+1,u'),by dsimp only;omega,Hf,H'',f1,⟨by dsimp only;omega,?_⟩,bz ag0⟩;dsimp only;rw[hsu3,eU];exact f2
theorem zx(b:Nat)(B:List UInt8)(at_:Nat)(bad:Bool)(n r i o:Int)(F:List (List Int))(O:List (List (List Int)))(y:AV)(hy:y.one=true/\y.cells=[y])(H:Hp)(nx:Nat)(hb:H b=some (rdC B at_ bad))(hlt:b<nx)(hl:B.length<=1000000000)(hat:at_<=B.length)(hn:0<=n/\n<=300000000):
    Abs.Fn Try.prog 52 [.ptr b 3 0,.agg [.int .i64 n,.int .i64 r,.int .i64 i,.int .i64 o,aF F,y,.esl,aN O]] H nx λx H' nx'=>H' b=some (rdC B (ng B n at_ bad).2.1 (ng B n at_ bad).2.2)/\Row H' 8 x ((ng B n at_ bad).1.flatMap StepV.cells)/\nx<=nx'/\(∀i,i<nx->i≠b->H' i=H i)/\(∀i,aY x=some i->nx<=i/\i<nx'):=by
 refine fO Ed ?_;simp only[b52,aS];unfold ng aG;have hnb:=dP B at_ bad;have hna:=da (bad:=bad) hat;unfold rdC at *;have zz:=aI @ME (aI hy.1 hy.2);repeat' (first|refine zW ?_|apply a_n|refine zO ?_|refine vZ ?_|refine bxZ ?_|fail)
 refine aK ev0 ev0 (iI b B at_ bad _ _ (by rw[ac (by omega)];exact hb) hl hat) ?_;rintro _ H1 nx1 ⟨rfl,rfl,rfl⟩;have hP:QR b (rdC B (br B at_ bad).2.1 (br B at_ bad).2.2) .esl [] (nx+1) (ah H nx [.int .i64 n,.int .i64 r,.int .i64 i,.int .i64 o,aF F,y,.esl,aN O]) (ah (ah H nx [.int .i64 n,.int .i64 r,.int .i64 i,.int .i64 o,aF F,y,.esl,aN O]) b [aW B,.int .i64 ((br B at_ bad).2.1:Int),.bool (br B at_ bad).2.2]) (nx+1):=⟨ag,Row.nil,λx h=>(by cases h),bj _,λy _ hy=>ac hy⟩
 generalize br B at_ bad=c at *;obtain⟨tot,p0,bd0⟩:=c;dsimp only at hnb hna hP |-;rw[kK]
 repeat' (first|refine zW ?_|apply a_n|refine zO ?_|refine vZ ?_|fail)
 refine dL (X:=AV×Nat×List StepV×Nat×Bool) (λx=>[(0,.ptr b 3 0),(3,.ptr nx 8 0),(5,.int .i64 tot),(6,x.1),(7,.int .i64 x.2.1)]) (λx H1 nx1=>x.2.1<=tot/\x.2.2.1.length<=x.2.1/\x.2.2.2.1<=B.length/\QR b (rdC B x.2.2.2.1 x.2.2.2.2) x.1 (x.2.2.1.flatMap StepV.cells) (nx+1) (ah H nx [.int .i64 n,.int .i64 r,.int .i64 i,.int .i64 o,aF F,y,.esl,aN O]) H1 nx1/\gb B n.toNat tot p0 bd0=(x.2.2.1++(gb B n.toNat (tot-x.2.1) x.2.2.2.1 x.2.2.2.2).1,(gb B n.toNat (tot-x.2.1) x.2.2.2.1 x.2.2.2.2).2)) (λx=>tot-x.2.1) (.esl,0,[],p0,bd0)
  ⟨bZ _,bj _,hna,hP,rfl⟩ (by(iterate 5 refine And.intro rfl ?_);trivial) ?_
 clear zz;clear hP;rintro⟨s,k,D,p1,bd1⟩ H4 nx4 ⟨k1,k2,k3,hP,k4⟩;dsimp only at k1 k2 k3 hP k4 |-;have hrd:=hP.rd;unfold rdC at hrd;by_cases hgo:k<tot/\bd1=false
 rotate_left
 ·have hfin:gb B n.toNat (tot-k) p1 bd1=([],p1,bd1):=by
    cases bd1 with
    |true=>exact iC _ _ _ _
    |false=>
     have:¬k<tot:=λh=>hgo ⟨h,rfl⟩;rw[show tot-k=0 by omega];rfl
  rw[hfin,kp] at k4;rw[k4];have fin:=(show _/\_/\_/\_/\_ from⟨hP.rd,hP.row,(show nx<=nx4 by have:=hP.lt;omega),(λi hi hib=>(hP.fr i (by omega) hib).trans (ac (by omega)):∀i,i<nx->i≠b->H4 i=H i),(λx hx=>by have:=hP.rlt x hx;omega:∀i,aY s=some i->nx<=i/\i<nx4)⟩)
  by_cases hk:k<tot
  ·have hbd:bd1=true:=by simpa using λh=>hgo ⟨hk,h⟩
   subst hbd;have zz:=aI @NK (aI @hrd (aI @aB (aI @aP @bm)));repeat' (first|refine zW ?_|apply a_n|apply a_x|refine zO ?_|refine vZ ?_|refine gTZ ?_|(refine zGZ ?_ ?_<;>(intro _hg;try (exfalso;omega)))|refine cFZ ?_|refine ae rfl ?_|refine r1Z ?_|fail)
   exact fin
  ·have zz:=aI @NK (aI @hrd (aI @aB (aI @aP @bm)));repeat' (first|refine zW ?_|apply a_n|apply a_x|refine zO ?_|refine vZ ?_|refine gFZ ?_|(refine zGZ ?_ ?_<;>(intro _hg;try (exfalso;omega)))|refine cFZ ?_|refine ae rfl ?_|refine r1Z ?_|fail)
   all_goals exact fin
 obtain⟨hk,rfl⟩:=hgo;obtain⟨z,hz⟩:∃z,tot-k=z+1:=⟨tot-k-1,by omega⟩
 rw[hz,og] at k4;have zz:=aI @NK (aI @hrd (aI @aB (aI @aP @bm)));repeat' (first|refine zW ?_|apply a_n|refine zO ?_|refine vZ ?_|refine gTZ ?_|(refine zGZ ?_ ?_<;>(intro _hg;try (exfalso;omega)))|refine cTZ ?_|fail)
 have hlt4:=hP.lt;have hn1:=dP B p1 false;have ha1:=da (bad:=false) k3;refine aK ev0 ev0 (iI b B p1 false H4 nx4 hrd hl k3) ?_;rintro _ H5 nx5 ⟨rfl,rfl,rfl⟩;have hP1:=hP.step (rc':=rdC B (br B p1 false).2.1 (br B p1 false).2.2) (H':=ah H4 b [aW B,.int .i64 ((br B p1 false).2.1:Int),.bool (br B p1 false).2.2]) (nx':=nx5) (by omega) ag (λi hi h2=>ac h2) (bj _);have hst:fC B n.toNat p1 false=fC B n.toNat p1 false:=rfl
 conv at hst=>rhs;unfold fC aG
 dsimp only at hst;generalize ah H4 b [aW B,.int .i64 ((br B p1 false).2.1:Int),.bool (br B p1 false).2.2]=H5 at *;generalize br B p1 false=ra at *;obtain⟨ra,p2,bd2⟩:=ra;dsimp only at hn1 ha1 hP1 hst |-
 repeat' (first|apply a_n|refine zO ?_|refine vZ ?_|fail)
 have hn2:=dP B p2 bd2;have ha2:=da (bad:=bd2) ha1;refine aK ev0 ev0 (iI b B p2 bd2 H5 nx5 hP1.rd hl ha1) ?_;rintro _ H6 nx6 ⟨rfl,rfl,rfl⟩;have hP2:=hP1.step (rc':=rdC B (br B p2 bd2).2.1 (br B p2 bd2).2.2) (H':=ah H5 b [aW B,.int .i64 ((br B p2 bd2).2.1:Int),.bool (br B p2 bd2).2.2]) (nx':=nx6) (by omega) ag (λi hi h2=>ac h2) (bj _);generalize ah H5 b [aW B,.int .i64 ((br B p2 bd2).2.1:Int),.bool (br B p2 bd2).2.2]=H6 at *;generalize br B p2 bd2=rb at *;obtain⟨rb,p3,bd3⟩:=rb;dsimp only at hn2 ha2 hP2 hst |-;clear zz;clear hP hP1 hrd
 repeat' (first|refine zW ?_|apply a_n|refine zO ?_|refine vY ?_|refine alY ?_|refine stY ?_|fail)
 have hX:QX b (rdC B p3 bd3) s (D.flatMap StepV.cells) nx6 ((.int .i64 (ra:Int)::.int .i64 (rb:Int)::([]:List Int).map (AV.int .i64))++((List.replicate (5-0) (0:Int)).map (AV.int .i64)++[.int .i64 0])) (nx+1) (ah H nx [.int .i64 n,.int .i64 r,.int .i64 i,.int .i64 o,aF F,y,.esl,aN O]) (ah (ah H6 nx6 [.int .i64 0,.int .i64 0,.int .i64 0,.int .i64 0,.int .i64 0,.int .i64 0,.int .i64 0,.int .i64 0]) nx6 ((.int .i64 (ra:Int)::.int .i64 (rb:Int)::([]:List Int).map (AV.int .i64))++((List.replicate (5-0) (0:Int)).map (AV.int .i64)++[.int .i64 0]))) (nx6+1):=by
  have h1:=hP2.step (rc':=rdC B p3 bd3) (H':=ah H6 nx6 [.int .i64 0,.int .i64 0,.int .i64 0,.int .i64 0,.int .i64 0,.int .i64 0,.int .i64 0,.int .i64 0]) (nx':=nx6+1) (by omega) (by rw[ac (by have:=hP2.lt;omega)];exact hP2.rd) (λi hi h2=>ac (by omega)) (by omega);exact QX.set ⟨h1,ag,⟨hP2.lt,by omega⟩,λh=>by have:=hP2.rlt _ h;omega⟩ (by omega)
 refine dL (X:=Nat) (λq=>[(0,.ptr b 3 0),(3,.ptr nx 8 0),(5,.int .i64 tot),(6,s),(7,.int .i64 k),(8,.ptr nx6 8 0),(9,.int .i64 q)]) (λq H1 nx1=>q<=5/\QX b (rdC B (qJ (dT B n.toNat) q p3 bd3).2.1 (qJ (dT B n.toNat) q p3 bd3).2.2) s (D.flatMap StepV.cells) nx6 ((.int .i64 (ra:Int)::.int .i64 (rb:Int)::(qJ (dT B n.toNat) q p3 bd3).1.map (AV.int .i64))++((List.replicate (5-q) (0:Int)).map (AV.int .i64)++[AV.int .i64 0])) (nx+1) (ah H nx [.int .i64 n,.int .i64 r,.int .i64 i,.int .i64 o,aF F,y,.esl,aN O]) H1 nx1) (λq=>5-q) 0
  ⟨by omega,hX⟩ (by(iterate 7 refine And.intro rfl ?_);trivial) ?_
 clear hX hP2;rintro q H7 nx7 ⟨u1,hX⟩;have p9:=zf (dT B n.toNat) q p3 bd3;have p10:=Bq (B:=B) (f:=dT B n.toNat) (λ_ _ _ h=>xM h) q (bad:=bd3) ha2;have hsucc:=pi (dT B n.toNat) q p3 bd3;generalize hst5:qJ (dT B n.toNat) q p3 bd3=st5 at *;obtain⟨e,p4,bd4⟩:=st5;dsimp only at hX p9 p10 hsucc;have hrd4:=hX.ph.rd;unfold rdC at hrd4;by_cases hq:q<5
 rotate_left
 ·have:q=5:=by omega
  subst this;rw[hst5] at hst;dsimp only at hst
  repeat' (first|refine zW ?_|apply a_n|apply a_x|refine zO ?_|refine vZ ?_|(refine zGZ ?_ ?_<;>(intro _hg;try (exfalso;omega)))|fail)
  refine aK ev0 ev0 (iI b B p4 bd4 H7 nx7 hrd4 hl p10) ?_;rintro _ H8 nx8 ⟨rfl,rfl,rfl⟩;have hn3:=dP B p4 bd4;have ha3:=da (bad:=bd4) p10;have hX2:=hX.step (rc':=rdC B (br B p4 bd4).2.1 (br B p4 bd4).2.2) (H':=ah H7 b [aW B,.int .i64 ((br B p4 bd4).2.1:Int),.bool (br B p4 bd4).2.2]) (nx':=nx8) (by omega) ag (λi hi h2=>ac h2) (bj _);generalize ah H7 b [aW B,.int .i64 ((br B p4 bd4).2.1:Int),.bool (br B p4 bd4).2.2]=H8 at *;generalize br B p4 bd4=rt at *;obtain⟨tt,p5,bd5⟩:=rt;dsimp only at hn3 ha3 hX2 hst |-;rw[Nat.sub_self,List.replicate_zero,List.map_nil,List.nil_append] at hX2;clear hX
  obtain⟨h0,h1,h2,h3,h4,rfl⟩:∃h0 h1 h2 h3 h4,e=[h0,h1,h2,h3,h4]:=by
   match e,p9 with
   |[h0,h1,h2,h3,h4],_=>exact⟨_,_,_,_,_,rfl⟩
  have hX3:=hX2.set (es':=(⟨(ra:Int),(rb:Int),h0,h1,h2,h3,h4,(tt:Int)⟩:StepV).cells) (by omega);have hbx:=hX2.bx;simp only[gD,List.map_nil,List.cons_append,List.nil_append] at hbx
  repeat' (first|apply a_n|refine zO ?_|refine vZ ?_|fail)
  refine tp rfl (b:=nx6) (n:=8) (off:=7) (vs:=[.int .i64 (tt:Int)]) ev0 ev0 hbx rfl rfl rfl rfl (by omega) ?_;have hl8:dr [.int .i64 (ra:Int),.int .i64 (rb:Int),.int .i64 h0,.int .i64 h1,.int .i64 h2,.int .i64 h3,.int .i64 h4,.int .i64 0] 7 [.int .i64 (tt:Int)]=(⟨(ra:Int),(rb:Int),h0,h1,h2,h3,h4,(tt:Int)⟩:StepV).cells:=rfl;rw[hl8];clear hbx hl8;generalize ah H8 nx6 (⟨(ra:Int),(rb:Int),h0,h1,h2,h3,h4,(tt:Int)⟩:StepV).cells=H9 at *;have hst':fC B n.toNat p1 false=(⟨(ra:Int),(rb:Int),h0,h1,h2,h3,h4,(tt:Int)⟩,p5,bd5):=hst;have hbx:=hX3.bx;unfold StepV.cells at hbx;have zz:=aI @NK @hbx;repeat' (first|apply a_n|refine zO ?_|refine vZ ?_|refine blZ ?_|fail)
  have hDl:=lX D;refine eL (k:=1) (new:=(⟨(ra:Int),(rb:Int),h0,h1,h2,h3,h4,(tt:Int)⟩:StepV).cells) rfl ev0 (hX3.ph.row.same λy hy=>ac (by have:=hX3.ph.rlt y hy;omega)) (xv:=.msl nx8 8 8 0 1) ev0 (jB (sz:=8) (b:=nx8) (n:=8) (off:=0) (len:=1) (cs:=(⟨(ra:Int),(rb:Int),h0,h1,h2,h3,h4,(tt:Int)⟩:StepV).cells) ag rfl (by omega)) rfl rfl (by omega) (by omega) (by omega) ?_;rintro s' H10 nx10 hrow i1 _ i3 i4;have hlt8:=hX3.ph.lt
  have hlow:∀x,x<nx+1->H10 x=H9 x:=λx hx=>by
   rw[i3 x (by omega) (λh=>by have:=hX3.ph.rlt x h;omega),ac (by omega)]
  clear zz;have zz:=@NK;repeat' (first|apply a_n|refine zO ?_|refine vZ ?_|fail)
  have hrlt:∀x,aY s'=some x->nx+1<=x/\x<nx10:=λx hx=>by
   rcases i4 x hx with h|h
   ·have:=hX3.ph.rlt x h;omega
   ·omega
  refine⟨(s',k+1,D++[⟨(ra:Int),(rb:Int),h0,h1,h2,h3,h4,(tt:Int)⟩],p5,bd5),by dsimp only;omega,⟨by dsimp only;omega,?_,ha3,⟨?_,?_,hrlt,by omega,λx hx hr=>?_⟩,?_⟩,ag0⟩
  ·dsimp only;rw[cm,List.length_singleton];omega
  ·rw[hlow b (by omega),hX3.ph.rd]
  ·dsimp only;rw[List.flatMap_append,rh,List.flatMap_nil,kp];exact hrow
  ·rw[hlow x hx,hX3.ph.fr x hx hr]
  ·dsimp only;rw[k4,hst',show tot-(k+1)=z by omega,f8];rfl
 obtain⟨w,hw⟩:∃w,5-q=w+1:=⟨4-q,by omega⟩
 have hy':5-(q+1)=w:=by omega
 rw[hw,List.replicate_succ,gD,List.cons_append (a:=AV.int .i64 0)] at hX;have hb1:=hX.b1
 repeat' (first|refine zW ?_|apply a_n|refine zO ?_|refine vZ ?_|(refine zGZ ?_ ?_<;>(intro _hg;try (exfalso;omega)))|fail)
 refine lQ rfl rfl (js ev0 ev0 hq) ?_;refine tp rfl (b:=nx6) (n:=8) (off:=2+q*1) (vs:=[.int .i64 (-1)]) ev0 ev0 hX.bx rfl rfl (by simp;omega) rfl (by omega) ?_;rw[kY (by simp;omega)];have hX2:=hX.set (es':=(.int .i64 (ra:Int)::.int .i64 (rb:Int)::e.map (AV.int .i64))++.int .i64 (-1)::((List.replicate w (0:Int)).map (AV.int .i64)++[.int .i64 0])) (by omega);clear hX;generalize ah H7 nx6 ((.int .i64 (ra:Int)::.int .i64 (rb:Int)::e.map (AV.int .i64))++.int .i64 (-1)::((List.replicate w (0:Int)).map (AV.int .i64)++[.int .i64 0]))=H8 at *;have hm8:=(hX2.ph.fr nx (by omega) (by omega)).trans ag;by_cases hqn:q<n.toNat
 ·have zq:decide ((q:Int)<n)=true:=bk (by omega);have zz:=aI @NK (aI @hm8 @zq);repeat' (first|refine zW ?_|apply a_n|refine zO ?_|refine vZ ?_|refine cTZ ?_|fail)
  have hn4:=dP B p4 bd4;refine aK ev0 ev0 (iI b B p4 bd4 H8 nx7 hX2.ph.rd hl p10) ?_;rintro _ H9 nx9 ⟨rfl,rfl,rfl⟩;have hX3:=hX2.step (rc':=rdC B (br B p4 bd4).2.1 (br B p4 bd4).2.2) (H':=ah H8 b [aW B,.int .i64 ((br B p4 bd4).2.1:Int),.bool (br B p4 bd4).2.2]) (nx':=nx9) (by omega) ag (λi hi h2=>ac h2) (bj _);clear zz;clear hX2
  repeat' (first|apply a_n|refine zO ?_|refine vZ ?_|fail)
  refine lQ rfl rfl (js ev0 ev0 hq) ?_;refine tp rfl (b:=nx6) (n:=8) (off:=2+q*1) (vs:=[.int .i64 (((br B p4 bd4).1:Int)-1)]) ev0 ev0 hX3.bx rfl rfl (by simp;omega) rfl (by omega) ?_;rw[kY (by simp;omega)];have hX4:=hX3.set (es':=(.int .i64 (ra:Int)::.int .i64 (rb:Int)::e.map (AV.int .i64))++.int .i64 (((br B p4 bd4).1:Int)-1)::((List.replicate w (0:Int)).map (AV.int .i64)++[.int .i64 0])) (by omega)
  repeat' (first|apply a_n|refine zO ?_|refine vZ ?_|fail)
  refine⟨q+1,by omega,⟨by omega,?_⟩,ag0⟩;have hrec:dT B n.toNat q p4 bd4=(((br B p4 bd4).1:Int)-1,(br B p4 bd4).2):=by unfold dT aG;rw[if_pos hqn]
  rw[hsucc,hrec,hy'];simpa using hX4
 ·have zq:decide ((q:Int)<n)=false:=bq (by omega);have zz:=aI @NK (aI @hm8 @zq);repeat' (first|refine zW ?_|apply a_n|refine zO ?_|refine vZ ?_|refine cFZ ?_|fail)
  refine⟨q+1,by omega,⟨by omega,?_⟩,ag0⟩;have hrec:dT B n.toNat q p4 bd4=(-1,p4,bd4):=by unfold dT;rw[if_neg hqn]
  rw[hsucc,hrec,hy'];simpa using hX2
theorem yy(b:Nat)(B:List UInt8)(at_:Nat)(H:Hp)(nx:Nat)(hb:H b=some (rdC B at_ false))(hlt:b<nx)(hl:B.length<=1000000000)(hat:at_<=B.length):
    Abs.Fn Try.prog 49 [.ptr b 3 0] H nx λx H' nx'=>∃s,x=.agg (mkF (jn B at_).1.1 (jn B at_).1.2.1 (jn B at_).1.2.2.1 (jn B at_).1.2.2.2 s)/\H' b=some (rdC B (uh B (jn B at_)).2.1 (uh B (jn B at_)).2.2)/\Row H' 1 s ((uh B (jn B at_)).1.map be)/\nx<=nx'/\(∀i,i<nx->i≠b->H' i=H i)/\(∀i,aY s=some i->nx<=i/\i<nx'):=by
 refine fO DR ?_;simp only[b49,aS];have hbg:jn B at_=jn B at_:=rfl
 conv at hbg=>rhs;unfold jn aG
 dsimp only at hbg;unfold rdC at *
 repeat' (first|refine zW ?_|apply a_n|refine zO ?_|refine vZ ?_|refine alZ ?_|fail)
 have n1:=dP B at_ false;have a1:=da (bad:=false) hat;refine aK ev0 ev0 (iI b B at_ false _ _ (by rw[ac (by omega)];exact hb) hl hat) ?_;rintro _ H1 nx1 ⟨rfl,rfl,rfl⟩;generalize br B at_ false=qa at *;obtain⟨qa,p1,b1⟩:=qa;dsimp only at n1 a1 hbg |-
 repeat' (first|apply a_n|refine zO ?_|refine vZ ?_|fail)
 have n2:=dP B p1 b1;have a2:=da (bad:=b1) a1;refine aK ev0 ev0 (iI b B p1 b1 _ _ ag hl a1) ?_;rintro _ H2 nx2 ⟨rfl,rfl,rfl⟩;generalize br B p1 b1=qb at *;obtain⟨qb,p2,b2⟩:=qb;dsimp only at n2 a2 hbg |-
 repeat' (first|apply a_n|refine zO ?_|refine vZ ?_|fail)
 have n3:=dP B p2 b2;have a3:=da (bad:=b2) a2;refine aK ev0 ev0 (iI b B p2 b2 _ _ ag hl a2) ?_;rintro _ H3 nx3 ⟨rfl,rfl,rfl⟩;generalize br B p2 b2=qc at *;obtain⟨qc,p3,b3⟩:=qc;dsimp only at n3 a3 hbg |-
 repeat' (first|apply a_n|refine zO ?_|refine vZ ?_|fail)
 have n4:=dP B p3 b3;have a4:=da (bad:=b3) a3;refine aK ev0 ev0 (iI b B p3 b3 _ _ ag hl a3) ?_;rintro _ H4 nx4 ⟨rfl,rfl,rfl⟩;generalize br B p3 b3=qd at *;obtain⟨qd,p4,b4⟩:=qd;dsimp only at n4 a4 hbg |-;rw[hbg];rw[nb,nb,nb];have q0:ah (ah H nx [AV.int IntKind.i64 0,AV.int IntKind.i64 0,AV.int IntKind.i64 0,AV.int IntKind.i64 0,.esl,.esl,.esl,.esl]) b [aW B,.int .i64 (p4:Int),.bool b4] b=some [aW B,.int .i64 (p4:Int),.bool b4]:=ag;have q1:∀i,i<nx->i≠b->ah (ah H nx [AV.int IntKind.i64 0,AV.int IntKind.i64 0,AV.int IntKind.i64 0,AV.int IntKind.i64 0,.esl,.esl,.esl,.esl]) b [aW B,.int .i64 (p4:Int),.bool b4] i=H i:=λi h1 h2=>by rw[ac h2,ac (by omega)]
 have q2:ah (ah H nx [AV.int IntKind.i64 0,AV.int IntKind.i64 0,AV.int IntKind.i64 0,AV.int IntKind.i64 0,.esl,.esl,.esl,.esl]) b [aW B,.int .i64 (p4:Int),.bool b4] nx=some [AV.int IntKind.i64 0,AV.int IntKind.i64 0,AV.int IntKind.i64 0,AV.int IntKind.i64 0,.esl,.esl,.esl,.esl]:=by rw[ac (by omega),ag]
 generalize ah (ah H nx [AV.int IntKind.i64 0,AV.int IntKind.i64 0,AV.int IntKind.i64 0,AV.int IntKind.i64 0,.esl,.esl,.esl,.esl]) b [aW B,.int .i64 (p4:Int),.bool b4]=HH at *
 repeat' (first|apply a_n|refine zO ?_|refine vZ ?_|refine alZ ?_|refine stZ ?_|fail)
 have hb2:ah (ah HH (nx+1) [AV.int IntKind.i64 0,AV.int IntKind.i64 0,AV.int IntKind.i64 0,AV.int IntKind.i64 0,AV.esl,AV.esl,AV.esl,AV.esl]) (nx+1) (dr [AV.int IntKind.i64 0,AV.int IntKind.i64 0,AV.int IntKind.i64 0,AV.int IntKind.i64 0,AV.esl,AV.esl,AV.esl,AV.esl] 0 [AV.int IntKind.i64 (qa:Int),AV.int IntKind.i64 (qb:Int),AV.int IntKind.i64 (qc:Int),AV.int IntKind.i64 (qd:Int),AV.esl,AV.esl,AV.esl,AV.esl]) b=some [aW B,.int .i64 (p4:Int),.bool b4]:=by rw[ac (by omega),ac (by omega)];exact q0
 have hb3:ah (ah HH (nx+1) [AV.int IntKind.i64 0,AV.int IntKind.i64 0,AV.int IntKind.i64 0,AV.int IntKind.i64 0,AV.esl,AV.esl,AV.esl,AV.esl]) (nx+1) (dr [AV.int IntKind.i64 0,AV.int IntKind.i64 0,AV.int IntKind.i64 0,AV.int IntKind.i64 0,AV.esl,AV.esl,AV.esl,AV.esl] 0 [AV.int IntKind.i64 (qa:Int),AV.int IntKind.i64 (qb:Int),AV.int IntKind.i64 (qc:Int),AV.int IntKind.i64 (qd:Int),AV.esl,AV.esl,AV.esl,AV.esl]) (nx+1)=some [AV.int IntKind.i64 (qa:Int),AV.int IntKind.i64 (qb:Int),AV.int IntKind.i64 (qc:Int),AV.int IntKind.i64 (qd:Int),AV.esl,AV.esl,AV.esl,AV.esl]:=by rw[ag];rfl
 have hb4:∀i,i≠nx+1->ah (ah HH (nx+1) [AV.int IntKind.i64 0,AV.int IntKind.i64 0,AV.int IntKind.i64 0,AV.int IntKind.i64 0,AV.esl,AV.esl,AV.esl,AV.esl]) (nx+1) (dr [AV.int IntKind.i64 0,AV.int IntKind.i64 0,AV.int IntKind.i64 0,AV.int IntKind.i64 0,AV.esl,AV.esl,AV.esl,AV.esl] 0 [AV.int IntKind.i64 (qa:Int),AV.int IntKind.i64 (qb:Int),AV.int IntKind.i64 (qc:Int),AV.int IntKind.i64 (qd:Int),AV.esl,AV.esl,AV.esl,AV.esl]) i=HH i:=λi h=>by rw[ac h,ac h]
 generalize ah (ah HH (nx+1) [AV.int IntKind.i64 0,AV.int IntKind.i64 0,AV.int IntKind.i64 0,AV.int IntKind.i64 0,AV.esl,AV.esl,AV.esl,AV.esl]) (nx+1) (dr [AV.int IntKind.i64 0,AV.int IntKind.i64 0,AV.int IntKind.i64 0,AV.int IntKind.i64 0,AV.esl,AV.esl,AV.esl,AV.esl] 0 [AV.int IntKind.i64 (qa:Int),AV.int IntKind.i64 (qb:Int),AV.int IntKind.i64 (qc:Int),AV.int IntKind.i64 (qd:Int),AV.esl,AV.esl,AV.esl,AV.esl])=HX at *;refine cw (λT H1 nx1=>T 0=.ptr b 3 0/\T 2=.ptr nx 8 0/\T 3=.ptr (nx+1) 8 0/\QP b (nx+1) (rdC B p4 (b4 || decide (5<(qa:Int)\/6<(qb:Int)\/8<(qc:Int)))) (mkF qa qb qc qd) .esl [] (nx+2) HH H1 nx1) ?_ ?_
 ·have fin:∀bd H1,(∀i,i≠b->i≠nx+1->H1 i=HH i)->H1 b=some [aW B,.int .i64 (p4:Int),.bool bd]->H1 (nx+1)=some (mkF qa qb qc qd .esl)->(b4 || decide (5<(qa:Int)\/6<(qb:Int)\/8<(qc:Int)))=bd->QP b (nx+1) (rdC B p4 (b4 || decide (5<(qa:Int)\/6<(qb:Int)\/8<(qc:Int)))) (mkF qa qb qc qd) .esl [] (nx+2) HH H1 (nx+2):=λbd H1 g1 g2 g3 g4=>by
    rw[g4];exact⟨g2,g3,Row.nil,λx h=>(by cases h),bj _,λi _ h1 h2=>g1 i h1 h2⟩
  by_cases hbig:5<(qa:Int)\/6<(qb:Int)\/8<(qc:Int)
  ·have hor:(b4 || decide (5<(qa:Int)\/6<(qb:Int)\/8<(qc:Int)))=true:=by rw[bk hbig,Bool.or_true]
   by_cases h5:5<qa
   ·have z5:decide ((5:Int)<qa)=true:=bk (by omega);have zz:=aI @NK (aI @z5 (aI @hb2 (aI @hb3 (aI @aB @aP))));repeat' (first|refine zW ?_|apply a_n|refine zO ?_|refine vY ?_|refine stY ?_|refine gFY ?_|refine cTY ?_|fail)
    refine⟨ev0,ev0,ev0,fin true _ (λi h1 h2=>?_) ?_ ?_ hor⟩
    ·rw[ac h1,hb4 i h2]
    ·rw[ag];rfl
    ·rw[ac (by omega)];exact hb3
   have z5:decide ((5:Int)<qa)=false:=bq (by omega);by_cases h6:6<qb
   ·have z6:decide ((6:Int)<qb)=true:=bk (by omega);have zz:=aI @NK (aI @z5 (aI @z6 (aI @hb2 (aI @hb3 (aI @aB @aP)))));repeat' (first|refine zW ?_|apply a_n|refine zO ?_|refine vY ?_|refine stY ?_|refine gTY ?_|refine gFY ?_|refine cTY ?_|fail)
    refine⟨ev0,ev0,ev0,fin true _ (λi h1 h2=>?_) ?_ ?_ hor⟩
    ·rw[ac h1,hb4 i h2]
    ·rw[ag];rfl
    ·rw[ac (by omega)];exact hb3
   have z6:decide ((6:Int)<qb)=false:=bq (by omega);have z8:decide ((8:Int)<qc)=true:=bk (by omega);have zz:=aI @NK (aI @z5 (aI @z6 (aI @z8 (aI @hb2 (aI @hb3 (aI @aB @aP))))));repeat' (first|refine zW ?_|apply a_n|refine zO ?_|refine vY ?_|refine stY ?_|refine gTY ?_|refine cTY ?_|fail)
   refine⟨ev0,ev0,ev0,fin true _ (λi h1 h2=>?_) ?_ ?_ hor⟩
   ·rw[ac h1,hb4 i h2]
   ·rw[ag];rfl
   ·rw[ac (by omega)];exact hb3
  ·have hor:(b4 || decide (5<(qa:Int)\/6<(qb:Int)\/8<(qc:Int)))=b4:=by rw[bq hbig,Bool.or_false]
   have z5:decide ((5:Int)<qa)=false:=bq (by omega);have z6:decide ((6:Int)<qb)=false:=bq (by omega);have z8:decide ((8:Int)<qc)=false:=bq (by omega);have zz:=aI @NK (aI @z5 (aI @z6 (aI @z8 (aI @hb2 (aI @hb3 (aI @aB @aP))))));repeat' (first|refine zW ?_|apply a_n|refine zO ?_|refine vY ?_|refine gTY ?_|refine cFY ?_|fail)
   exact⟨ev0,ev0,ev0,fin b4 _ (λi h1 h2=>hb4 i h2) hb2 hb3 hor⟩
 clear hb2 hb3 hb4 hbg;rintro T H1 nx1 ⟨t0,t2,t3,hP⟩;unfold uh;dsimp only;generalize (b4 || decide (5<(qa:Int)\/6<(qb:Int)\/8<(qc:Int)))=bd0 at *;have zz:=aI @t0 (aI @t2 @t3);repeat' (first|refine zW ?_|apply a_n|refine zO ?_|refine vZ ?_|fail)
 refine iV (X:=Nat×AV) (λx=>[(0,.ptr b 3 0),(2,.ptr nx 8 0),(3,.ptr (nx+1) 8 0),(4,.int .i64 x.1)]) (λx H1 nx1=>x.1<=((qa:Int)).toNat/\QP b (nx+1) (rdC B (qI (λ_=>cA B 1 ((qc:Int)).toNat) x.1 p4 bd0).2.1 (qI (λ_=>cA B 1 ((qc:Int)).toNat) x.1 p4 bd0).2.2) (mkF qa qb qc qd) x.2 ((qI (λ_=>cA B 1 ((qc:Int)).toNat) x.1 p4 bd0).1.map be) (nx+2) HH H1 nx1) (λx=>((qa:Int)).toNat-x.1) (0,.esl)
  ⟨_,_,Fz.none,⟨bZ _,hP⟩,bz (have zz:=aI @t0 (aI @t2 @t3);agZ)⟩ ?_
 clear zz;clear hP t0 t2 t3;rintro⟨k,s⟩ H5 nx5 ⟨k1,hP⟩;dsimp only at k1 hP |-;have hend:=n6 (λ_=>cA B 1 ((qc:Int)).toNat) (at_:=p4) (bad:=bd0) k1;have hsucc:=λh=>gq (λ_=>cA B 1 ((qc:Int)).toNat) (k:=k) (at_:=p4) (bad:=bd0) h;have hat5:=jf (B:=B) (f:=λ_=>cA B 1 ((qc:Int)).toNat) (λ_ _ h=>kL _ h) k (bad:=bd0) a4;have hlen:=(j8 (λ_=>cA B 1 ((qc:Int)).toNat) k p4 bd0).1;generalize hst:qI (λ_=>cA B 1 ((qc:Int)).toNat) k p4 bd0=st at *;obtain⟨F,p5,bd⟩:=st;dsimp only at hP hend hsucc hat5 hlen;have hm:=hP.mc;have hrd:=hP.rd;have hz:=(hP.fr nx (by omega) (by omega) (by omega)).trans q2;unfold rdC at hrd;unfold mkF at hm;have hone:=hP.row.one;have hlt5:=hP.lt;by_cases hgo:k<((qa:Int)).toNat/\bd=false
 rotate_left
 ·rw[hend hgo];by_cases hk:k<((qa:Int)).toNat
  ·have hbd:bd=true:=by simpa using λh=>hgo ⟨hk,h⟩
   subst hbd;have z:decide ((k:Int)<qa)=true:=bk (by omega);have zz:=aI @NK (aI @ME (aI @hm (aI @hrd (aI @hz (aI @z (aI @aB (aI @aP (aI hone.1 (aI hone.2 @bm)))))))));repeat' (first|refine zW ?_|apply a_n|apply a_x|refine zO ?_|refine vY ?_|refine stY ?_|refine gTY ?_|refine cFY ?_|refine ae rfl ?_|refine r1Y ?_|fail)
   exact⟨s,rfl,by rw[ac (by omega)];exact hP.rd,hP.row.same λy hy=>ac (by have:=hP.rlt y hy;omega),by omega,λi hi hib=>by rw[ac (by omega),hP.fr i (by omega) hib (by omega)];exact q1 i hi hib,λx hx=>by have:=hP.rlt x hx;omega⟩
  ·have z:decide ((k:Int)<qa)=false:=bq (by omega);have zz:=aI @NK (aI @ME (aI @hm (aI @hrd (aI @hz (aI @z (aI @aB (aI @aP (aI hone.1 (aI hone.2 @bm)))))))));repeat' (first|refine zW ?_|apply a_n|apply a_x|refine zO ?_|refine vY ?_|refine stY ?_|refine gFY ?_|refine cFY ?_|refine ae rfl ?_|refine r1Y ?_|fail)
   exact⟨s,rfl,by rw[ac (by omega)];exact hP.rd,hP.row.same λy hy=>ac (by have:=hP.rlt y hy;omega),by omega,λi hi hib=>by rw[ac (by omega),hP.fr i (by omega) hib (by omega)];exact q1 i hi hib,λx hx=>by have:=hP.rlt x hx;omega⟩
 obtain⟨hk,rfl⟩:=hgo;have z:decide ((k:Int)<qa)=true:=bk (by omega);have hsu:=hsucc rfl;clear hend hsucc;have zz:=aI @NK (aI @ME (aI @hm (aI @hrd (aI @z (aI @aB (aI @aP @bm))))));repeat' (first|refine zW ?_|apply a_n|refine zO ?_|refine vZ ?_|refine gTZ ?_|refine cTZ ?_|fail)
 refine wi (only (nx+1) (mkF qa qb qc qd s)) rfl (jd hP.mc) ?_;have hS:only (nx+1) (mkF qa qb qc qd s) (nx+1)=some [.int .i64 qa,.int .i64 qb,.int .i64 qc,.int .i64 qd,s,.esl,.esl,.esl]:=j7;clear zz;have zz:=aI @NK (aI @hS (aI hone.1 hone.2));repeat' (first|apply a_n|refine zO ?_|refine nvY ?_|fail)
 refine qj ?_;refine aK ev0 ev0 (po b B p5 false (qc:Int) 1 H5 nx5 hP.rd (by omega) hl hat5 (by omega) (by omega)) ?_;rintro v H6 nx6 ⟨c1,c2,c3,c4,c5⟩
 repeat' (first|apply a_n|refine zO ?_|fail)
 have h3:H6 (nx+1)=some (mkF qa qb qc qd s):=by rw[c4 (nx+1) (by omega) (by omega)];exact hP.mc
 have hvo:=c2.one;refine⟨jd h3,?_⟩;refine qj ?_;clear zz;have zz:=aI hvo.1 hvo.2;repeat' (first|apply a_n|refine zO ?_|refine blY ?_|fail)
 refine⟨jd (by rw[ac (by omega)];exact h3),?_⟩
 repeat' (first|apply a_n|refine zO ?_|apply rI|fail)
 have hP2:=hP.step (rc':=rdC B (cA B 1 ((qc:Int)).toNat p5 false).2.1 (cA B 1 ((qc:Int)).toNat p5 false).2.2) (H':=H6) (nx':=nx6) (by omega) (by omega) (by omega) c1 c4 c3;refine eL (k:=1) (new:=[v]) rfl ev0 (hP2.row.same λy hy=>ac (by have:=hP2.rlt y hy;omega)) ev0 dB (by simp[AV.ones,hvo.1]) rfl f6 (by rw[eG];omega) (by rw[eG];omega) ?_;rintro s' H7 nx7 hrow i1 _ i3 i4;have hone':=hrow.one;obtain⟨h33,Hf,H'',f1,f2⟩:=hP2.push (v:=v) (v':=be (cA B 1 ((qc:Int)).toNat p5 false).1) (by omega) (by omega) (by omega) (λy hy=>⟨by have:=c5 y hy;omega,(c5 y hy).2,λh=>by have:=c5 y hy;have:=hP.rlt y h;omega⟩) (λHf hf=>(c2.same hf).snapI) hrow i1 i3 i4;unfold mkF at h33;clear zz;have zz:=aI @NK (aI @h33 (aI hone'.1 hone'.2));repeat' (first|apply a_n|refine zO ?_|refine vZ ?_|refine nvZ ?_|apply rI|refine stZ ?_|fail)
 refine⟨(k+1,s'),by dsimp only;omega,Hf,H'',f1,⟨by dsimp only;omega,?_⟩,bz ag0⟩;dsimp only;rw[hsu,eU];exact f2
theorem zy(l:List UInt8)(hl:Sh l):pU 22 [aW l] (.tup [bV (dC l).1,.int .i64 (dC l).2]):=by
 refine pO DA ?_;simp only[b22,aS];have hri:=AB l hl;by_cases hlen:65536<l.length
 ·have e:dC l=(gX,13):=by unfold dC;rw[if_pos hlen]
  have z:decide ((65536:Int)<l.length)=true:=bk (by omega);rw[e];have zz:=aI @z @aH;repeat' (first|refine zW ?_|apply a_n|apply a_r|refine zO ?_|refine vZ ?_|refine alZ ?_|refine stZ ?_|refine cTZ ?_|refine ae rfl ?_|refine r2Z ?_|fail)
  exact fy
 have z:decide ((65536:Int)<l.length)=false:=bq (by omega);cases hr:eo l with
 |false=>
  have e:dC l=(gX,24):=by unfold dC;rw[if_neg hlen,if_neg (by rw[hr];decide)]
  rw[hr] at hri;rw[e];have zz:=aI @z @aH;repeat' (first|refine zW ?_|apply a_n|apply a_r|refine zO ?_|refine vZ ?_|refine cZ ?_ (hp:=hri) (hs:=by(first|refine aq ?_ rfl|apply az);(repeat' (first|exact ar|apply aO|apply ay|exact bv _));first|done|fail)|refine alZ ?_|refine stZ ?_|refine cTZ ?_|refine cFZ ?_|refine ae rfl ?_|refine r2Z ?_|fail)
  exact fy
 |true=>
 rw[hr] at hri
 have h6:6<=l.length:=by
  unfold eo at hr;rw[cE,lc] at hr;exact hr.1
 have e2:(l.length:Int)-2=((l.length-2:Nat):Int):=by omega
 have hsl:fw (aW l) none (some (.int .i64 ((l.length-2:Nat):Int)))=some (aW (l.take (l.length-2))):=jz (by omega);have hpb:dC l=(let m:=ju ((l.take (l.length-2)).drop 4);if m.2.2=true\/dx m.1≠0\/bM m.1≠l then(gX,3) else(m.1,0)):=by unfold dC;rw[if_neg hlen,if_pos hr]
 dsimp only at hpb;have hBl:(l.take (l.length-2)).length=l.length-2:=by rw[gN];omega
 generalize hB:l.take (l.length-2)=B at *;have hag:=A5 (B:=B) (at_:=4) (by omega);have hsM:=uY (B.drop 4) (by rw[rz];omega);rw[hpb];clear hpb;generalize ju (B.drop 4)=RM at *;have hb0:=Aw B 4;have hb1:=AA (B:=B) (at_:=4) (by omega);have hf1:=zY hb1;unfold ur at hag;dsimp only at hag;have zz:=aI @z (aI @aH (aI @e2 (aI @hsl (aI @aB @aP))));repeat' (first|refine zW ?_|apply a_n|refine zO ?_|refine vZ ?_|refine cZ ?_ (hp:=hri) (hs:=by(first|refine aq ?_ rfl|apply az);(repeat' (first|exact ar|apply aO|apply ay|exact bv _));first|done|fail)|refine alZ ?_|refine stZ ?_|refine cFZ ?_|fail)
 refine aK ev0 ev0 (yy 1 B 4 _ _ (by unfold rdC;first|exact ag|(rw[ag];rfl)) (by omega) (by omega) (by omega)) ?_;rintro _ H1 nx1 ⟨s,rfl,c1,c2,c3,c4,c5⟩;generalize hbg:jn B 4=G at *;obtain⟨⟨n,r,i,o⟩,p0,bd0⟩:=G;dsimp only at c1 c2 hb0 hb1 hf1 hag |-;generalize uh B ((n,r,i,o),p0,bd0)=FF at *;obtain⟨F,p1,bd1⟩:=FF;dsimp only at c1 c2 hf1 hag |-
 have c0:H1 0=some [AV.int IntKind.i64 0,AV.int IntKind.i64 0,AV.int IntKind.i64 0,AV.int IntKind.i64 0,.esl,.esl,.esl,.esl]:=by
  rw[c4 0 (by omega) (by omega)]
  repeat rw[ac (by omega)]
  exact ag
 have hone:=c2.one;unfold mkF;clear zz;have zz:=aI hone.1 hone.2;repeat' (first|apply a_n|refine zO ?_|refine alY ?_|refine stY ?_|fail)
 have d1:ah (ah H1 nx1 [AV.int IntKind.i64 0,AV.int IntKind.i64 0,AV.int IntKind.i64 0,AV.int IntKind.i64 0,AV.esl,AV.esl,AV.esl,AV.esl]) nx1 (dr [AV.int IntKind.i64 0,AV.int IntKind.i64 0,AV.int IntKind.i64 0,AV.int IntKind.i64 0,AV.esl,AV.esl,AV.esl,AV.esl] 0 [AV.int IntKind.i64 n,AV.int IntKind.i64 r,AV.int IntKind.i64 i,AV.int IntKind.i64 o,s,AV.esl,AV.esl,AV.esl]) nx1=some (mkF n r i o s):=by rw[ag];rfl
 have d2:∀y,y<nx1->ah (ah H1 nx1 [AV.int IntKind.i64 0,AV.int IntKind.i64 0,AV.int IntKind.i64 0,AV.int IntKind.i64 0,AV.esl,AV.esl,AV.esl,AV.esl]) nx1 (dr [AV.int IntKind.i64 0,AV.int IntKind.i64 0,AV.int IntKind.i64 0,AV.int IntKind.i64 0,AV.esl,AV.esl,AV.esl,AV.esl] 0 [AV.int IntKind.i64 n,AV.int IntKind.i64 r,AV.int IntKind.i64 i,AV.int IntKind.i64 o,s,AV.esl,AV.esl,AV.esl]) y=H1 y:=λy hy=>by rw[ac (by omega),ac (by omega)]
 generalize ah (ah H1 nx1 [AV.int IntKind.i64 0,AV.int IntKind.i64 0,AV.int IntKind.i64 0,AV.int IntKind.i64 0,AV.esl,AV.esl,AV.esl,AV.esl]) nx1 (dr [AV.int IntKind.i64 0,AV.int IntKind.i64 0,AV.int IntKind.i64 0,AV.int IntKind.i64 0,AV.esl,AV.esl,AV.esl,AV.esl] 0 [AV.int IntKind.i64 n,AV.int IntKind.i64 r,AV.int IntKind.i64 i,AV.int IntKind.i64 o,s,AV.esl,AV.esl,AV.esl])=HX at *;have hr1:Row HX 1 s (F.map be):=c2.same λy hy=>d2 y (by have:=c5 y hy;omega);obtain⟨Hf,H2,fz,m1,m2⟩:=pj (c2:=mkO n r i o F .esl) (v:=aF F) d1 hr1 (λh=>by have:=c5 _ h;omega) (λHf h=>h.snapV) (λHf h=>ctF h);have e0:H2 0=some [AV.int IntKind.i64 0,AV.int IntKind.i64 0,AV.int IntKind.i64 0,AV.int IntKind.i64 0,.esl,.esl,.esl,.esl]:=by rw[m2 0 (by omega) (λh=>by have:=c5 0 h;omega),d2 0 (by omega)];exact c0
 have e1:H2 1=some (rdC B p1 bd1):=by rw[m2 1 (by omega) (λh=>by have:=c5 1 h;omega),d2 1 (by omega)];exact c1
 refine bW ?_;refine eJ Hf H2 [(0,aW l),(2,.ptr 0 8 0),(3,.int .i64 0),(4,.ptr 1 3 0),(5,.ptr nx1 8 0)] fz ⟨.inl ev0,.inl ev0,.inl ev0,.inl ev0,.inl ev0,trivial⟩ ?_;clear zz;clear fz m2 d1 d2 hr1 c0 c1 c2 c4 c5 hone;unfold mkO at m1;have zz:=aI @ME @m1;repeat' (first|apply a_n|refine zO ?_|refine vY ?_|fail)
 refine aK ev0 ev0 (AH 1 B p1 bd1 n r i o F H2 (nx1+1) e1 (by omega) (by omega) hf1 hb0.1 hb0.2) ?_;rintro x H3 nx3 ⟨c1,c2,c3',c4,c5⟩;have hsh:=um (B:=B) (n:=n) (r:=r) (at_:=p1) (bad:=bd1);have ha2:=yX (B:=B) (n:=n) (r:=r) (bad:=bd1) hf1;generalize fF B n r p1 bd1=OO at *;obtain⟨O,p2,bd2⟩:=OO;dsimp only at c1 c2 hsh ha2 hag;have g0:=(c4 0 (by omega) (by omega)).trans e0;have g1:=(c4 nx1 (by omega) (by omega)).trans m1;have hone:=c2.one;clear zz;have zz:=aI @ME (aI @g1 (aI hone.1 hone.2));repeat' (first|apply a_n|refine zO ?_|refine vY ?_|refine stY ?_|fail)
 have d1:ah H3 nx1 (dr [AV.int IntKind.i64 n,AV.int IntKind.i64 r,AV.int IntKind.i64 i,AV.int IntKind.i64 o,aF F,AV.esl,AV.esl,AV.esl] 7 [x]) nx1=some (mkO n r i o F x):=by rw[ag];rfl
 have d2:∀y,y≠nx1->ah H3 nx1 (dr [AV.int IntKind.i64 n,AV.int IntKind.i64 r,AV.int IntKind.i64 i,AV.int IntKind.i64 o,aF F,AV.esl,AV.esl,AV.esl] 7 [x]) y=H3 y:=λy hy=>by rw[ac hy]
 generalize ah H3 nx1 (dr [AV.int IntKind.i64 n,AV.int IntKind.i64 r,AV.int IntKind.i64 i,AV.int IntKind.i64 o,aF F,AV.esl,AV.esl,AV.esl] 7 [x])=HX at *;have hr1:Row HX 1 x (O.map aF):=c2.same λy hy=>d2 y (by have:=c5 y hy;omega);obtain⟨Hf,H4,fz,m1,m2⟩:=pj (c2:=mkS n r i o F O .esl) (v:=aN O) d1 hr1 (λh=>by have:=c5 _ h;omega) (λHf h=>je h) (λHf h=>ctO h);have e0:H4 0=some [AV.int IntKind.i64 0,AV.int IntKind.i64 0,AV.int IntKind.i64 0,AV.int IntKind.i64 0,.esl,.esl,.esl,.esl]:=by rw[m2 0 (by omega) (λh=>by have:=c5 0 h;omega),d2 0 (by omega)];exact g0
 have e1:H4 1=some (rdC B p2 bd2):=by rw[m2 1 (by omega) (λh=>by have:=c5 1 h;omega),d2 1 (by omega)];exact c1
 refine bW (bW ?_);refine eJ Hf H4 [(0,aW l),(2,.ptr 0 8 0),(3,.int .i64 0),(4,.ptr 1 3 0),(5,.ptr nx1 8 0)] fz ⟨.inl ev0,.inl ev0,.inl ev0,.inl ev0,.inl ev0,trivial⟩ ?_;clear zz;clear fz m2 d1 d2 hr1 g0 g1 c1 c2 c4 c5 hone;have e1':=e1;unfold rdC at e1';cases bd2 with
 |true=>
  have hbad:RM.2.2=true:=by
   rw[<-hag.1];unfold mN;rw[if_pos rfl]
  rw[if_pos (.inl hbad)];have zz:=aI @NK (aI @e1' (aI @e0 (aI @aB (aI @aP @bm))));repeat' (first|refine zW ?_|apply a_n|apply a_r|refine zO ?_|refine vY ?_|refine stY ?_|refine cTY ?_|refine cFY ?_|refine ae rfl ?_|refine r2Y ?_|fail)
  exact fy
 |false=>
 obtain⟨hO1,hO2⟩:=hsh rfl;unfold mN at hag;simp only[bm,if_false] at hag;unfold mkS at m1;have zz:=aI @NK (aI @e1' (aI @aB (aI @aP @bm)));repeat' (first|refine zW ?_|apply a_n|refine zO ?_|refine vY ?_|refine cTY ?_|fail)
 clear zz;have zz:=aI @ME @m1;repeat' (first|apply a_n|refine zO ?_|refine vY ?_|fail)
 have hOk:∀k,k<r.toNat->k<O.length/\(O.getD k default).length=n.toNat:=λk hk=>⟨by omega,(hO2 _ (aj (by omega))).1⟩
 have hOl:∀k p,((O.getD k default).getD p default).length<=300000000:=λk p=>by
  by_cases h1:k<O.length
  ·by_cases h2:p<(O.getD k default).length
   ·exact(hO2 _ (aj h1)).2 _ (aj h2)
   ·have e:(O.getD k default).getD p default=default:=by rw[List.getD,List.getElem?_eq_none (Nat.le_of_not_lt h2)];rfl
    rw[e];exact bZ _
  ·have e:O.getD k default=default:=by rw[List.getD,List.getElem?_eq_none (Nat.le_of_not_lt h1)];rfl
   rw[e];exact bZ _
 refine aK ev0 ev0 (Ag 1 B p2 false n r i o F O H4 nx3 e1 (by omega) (by omega) ha2 hb0.1 hb0.2 hOk hOl (by omega)) ?_;rintro x H5 nx5 ⟨c1,c2,c3'',c4,c5⟩;have ha3:=y6 (B:=B) (n:=n) (r:=r) (O:=O) (bad:=false) ha2;generalize lK B n r O p2 false=SS at *;obtain⟨S,p3,bd3⟩:=SS;dsimp only at c1 c2 ha3 hag;have g0:=(c4 0 (by omega) (by omega)).trans e0;have g1:=(c4 nx1 (by omega) (by omega)).trans m1;have hone:=c2.one;clear zz;have zz:=aI @ME (aI @g1 (aI hone.1 hone.2));repeat' (first|apply a_n|refine zO ?_|refine vY ?_|refine stY ?_|fail)
 have d1:ah H5 nx1 (dr [AV.int IntKind.i64 n,AV.int IntKind.i64 r,AV.int IntKind.i64 i,AV.int IntKind.i64 o,aF F,AV.esl,AV.esl,aN O] 5 [x]) nx1=some (mkS n r i o F O x):=by rw[ag];rfl
 have d2:∀y,y≠nx1->ah H5 nx1 (dr [AV.int IntKind.i64 n,AV.int IntKind.i64 r,AV.int IntKind.i64 i,AV.int IntKind.i64 o,aF F,AV.esl,AV.esl,aN O] 5 [x]) y=H5 y:=λy hy=>by rw[ac hy]
 have e0':ah H5 nx1 (dr [AV.int IntKind.i64 n,AV.int IntKind.i64 r,AV.int IntKind.i64 i,AV.int IntKind.i64 o,aF F,AV.esl,AV.esl,aN O] 5 [x]) 0=some [AV.int IntKind.i64 0,AV.int IntKind.i64 0,AV.int IntKind.i64 0,AV.int IntKind.i64 0,.esl,.esl,.esl,.esl]:=by rw[d2 0 (by omega)];exact g0
 have e1'':ah H5 nx1 (dr [AV.int IntKind.i64 n,AV.int IntKind.i64 r,AV.int IntKind.i64 i,AV.int IntKind.i64 o,aF F,AV.esl,AV.esl,aN O] 5 [x]) 1=some (rdC B p3 bd3):=by rw[d2 1 (by omega)];exact c1
 have hrS:Row (ah H5 nx1 (dr [AV.int IntKind.i64 n,AV.int IntKind.i64 r,AV.int IntKind.i64 i,AV.int IntKind.i64 o,aF F,AV.esl,AV.esl,aN O] 5 [x])) 1 x (S.map aN):=c2.same λy hy=>d2 y (by have:=c5 y hy;omega);have hbS:=c5;generalize ah H5 nx1 (dr [AV.int IntKind.i64 n,AV.int IntKind.i64 r,AV.int IntKind.i64 i,AV.int IntKind.i64 o,aF F,AV.esl,AV.esl,aN O] 5 [x])=H6 at *;clear zz;clear g0 g1 c1 c2 c4 c5 e0 e1 e1' m1 d2;refine aK ev0 ev0 (zx 1 B p3 bd3 n r i o F O x ⟨hone.1,hone.2⟩ H6 nx5 e1'' (by omega) (by omega) ha3 hb0.1) ?_;rintro t H7 nx7 ⟨c1,c2,c3q,c4,c5⟩;generalize ng B n p3 bd3=TT at *;obtain⟨T,p4,bd4⟩:=TT;dsimp only at c1 c2 hag;have g0:=(c4 0 (by omega) (by omega)).trans e0';unfold mkS at d1;have g1:=(c4 nx1 (by omega) (by omega)).trans d1;have hrS2:Row H7 1 x (S.map aN):=hrS.same λy hy=>c4 y (by have:=hbS y hy;omega) (by have:=hbS y hy;omega);have honet:=c2.one;have zz:=aI @ME (aI @g1 (aI hone.1 (aI hone.2 (aI honet.1 honet.2))));repeat' (first|apply a_n|refine zO ?_|refine vY ?_|refine stY ?_|fail)
 have d1:ah H7 nx1 (dr [AV.int IntKind.i64 n,AV.int IntKind.i64 r,AV.int IntKind.i64 i,AV.int IntKind.i64 o,aF F,x,AV.esl,aN O] 6 [t]) nx1=some (t9 n r i o F O x t):=by rw[ag];rfl
 have d2:∀y,y≠nx1->ah H7 nx1 (dr [AV.int IntKind.i64 n,AV.int IntKind.i64 r,AV.int IntKind.i64 i,AV.int IntKind.i64 o,aF F,x,AV.esl,aN O] 6 [t]) y=H7 y:=λy hy=>by rw[ac hy]
 generalize ah H7 nx1 (dr [AV.int IntKind.i64 n,AV.int IntKind.i64 r,AV.int IntKind.i64 i,AV.int IntKind.i64 o,aF F,x,AV.esl,aN O] 6 [t])=HX at *;have hrT:Row HX 8 t (T.flatMap StepV.cells):=c2.same λy hy=>d2 y (by have:=c5 y hy;omega);have hrS3:Row HX 1 x (S.map aN):=hrS2.same λy hy=>d2 y (by have:=hbS y hy;omega);obtain⟨Hf,H8,fz,m1,m2⟩:=pj (c2:=t9 n r i o F O x (bh T)) (v:=bh T) d1 hrT (λh=>by have:=c5 _ h;omega) (λHf h=>r9 h) (λHf h=>ctA h);have hrS4:Row H8 1 x (S.map aN):=hrS3.same λy hy=>m2 y (by have:=hbS y hy;omega) (λh=>by have:=hbS y hy;have:=c5 y h;omega);have e0:H8 0=some [AV.int IntKind.i64 0,AV.int IntKind.i64 0,AV.int IntKind.i64 0,AV.int IntKind.i64 0,.esl,.esl,.esl,.esl]:=by rw[m2 0 (by omega) (λh=>by have:=c5 0 h;omega),d2 0 (by omega)];exact g0
 have e1:H8 1=some (rdC B p4 bd4):=by rw[m2 1 (by omega) (λh=>by have:=c5 1 h;omega),d2 1 (by omega)];exact c1
 refine bW (bW ?_);refine eJ Hf H8 [(0,aW l),(2,.ptr 0 8 0),(3,.int .i64 0),(4,.ptr 1 3 0),(5,.ptr nx1 8 0)] fz ⟨.inl ev0,.inl ev0,.inl ev0,.inl ev0,.inl ev0,trivial⟩ ?_;clear zz;clear fz m2 d1 d2 hrT g0 g1 c1 c2 c4 c5 honet e0' e1'' hrS hrS2 hrS3;unfold rdC at e1;cases bd4 with
 |true=>
  rw[if_pos (.inl hag.1.symm)];have zz:=aI @NK (aI @e1 (aI @e0 (aI @aB (aI @aP @bm))));repeat' (first|refine zW ?_|apply a_n|apply a_r|refine zO ?_|refine vY ?_|refine stY ?_|refine cTY ?_|refine ae rfl ?_|refine r2Y ?_|fail)
  exact fy
 |false=>
 have zz:=aI @NK (aI @e1 (aI @aB (aI @aP @bm)));repeat' (first|apply a_n|refine zO ?_|refine vY ?_|refine cFY ?_|fail)
 refine bW (bW ?_);obtain⟨Hf2,H9,fz2,m3,m4⟩:=pj (c2:=t9 n r i o F O (b9 S) (bh T)) (v:=b9 S) m1 hrS4 (λh=>by have:=hbS _ h;omega) (λHf h=>r5 h) (λHf h=>ctB h);have e0q:H9 0=some [AV.int IntKind.i64 0,AV.int IntKind.i64 0,AV.int IntKind.i64 0,AV.int IntKind.i64 0,.esl,.esl,.esl,.esl]:=by rw[m4 0 (by omega) (λh=>by have:=hbS 0 h;omega)];exact e0
 refine eJ Hf2 H9 [(0,aW l),(2,.ptr 0 8 0),(3,.int .i64 0),(4,.ptr 1 3 0),(5,.ptr nx1 8 0)] fz2 ?_ ?_
 ·exact⟨.inl ev0,.inl ev0,.inl ev0,.inl ev0,.inl ev0,trivial⟩
 unfold t9 at m3;clear zz;clear m4 fz2 m1 hrS4 hbS e0 e1;have hm:=hag.2 rfl;have hRb:RM.2.2=false:=hag.1.symm;rw[<-hm] at hsM |-;rw[hRb];generalize hmv:(⟨n,r,i,o,F,S,T,O⟩:MachV)=m at *;have hcells:m.cells=[.int .i64 n,.int .i64 r,.int .i64 i,.int .i64 o,aF F,b9 S,bh T,aN O]:=by rw[<-hmv];rfl
 have em:=cp m;have hmr:=pX m hsM;unfold bV at em hmr;rw[hcells] at em hmr;have zM0:∀{H e},Snap H (.tup [.agg [.int .i64 0,.int .i64 0,.int .i64 0,.int .i64 0,.esl,.esl,.esl,.esl],.int .i64 e]) (.tup [bV gX,.int .i64 e]):=fy;by_cases hc0:(dX m).2=0
 rotate_left
 ·have hcond:false=true\/dx m≠0\/bM m≠l:=by
    refine .inr ?_;by_cases hk:dx m=0
    ·refine .inr λhw=>hc0 ?_;unfold dX;rw[if_neg (λh=>h hk),if_neg (by rw[hw];exact hlen)]
    ·exact .inl hk
  rw[if_pos hcond];have dk:decide ((dX m).2≠0)=true:=bk hc0;generalize dX m=MM at *;obtain⟨M1,M2⟩:=MM;dsimp only at hmr dk;have zz:=aI @NK (aI @ME (aI @e0q (aI @m3 (aI @dk (aI @aB (aI @aP @bm))))));repeat' (first|refine zW ?_|apply a_n|apply a_r|refine zO ?_|refine vY ?_|refine cY ?_ (hp:=hmr)|refine stY ?_|refine gFY ?_|refine cTY ?_|refine ae rfl ?_|refine r2Y ?_|fail)
  exact fy
 have hck:dx m=0/\dX m=(bM m,0):=by
  unfold dX at hc0 |-;by_cases hk:dx m=0
  ·rw[if_neg (λh=>h hk)] at hc0 |-;by_cases h2:65536<(bM m).length
   ·rw[if_pos h2] at hc0;exact absurd hc0 (by decide)
   ·rw[if_neg h2];exact⟨hk,rfl⟩
  ·rw[if_pos hk] at hc0;exact absurd hc0 hk
 rw[hck.2] at hmr;dsimp only at hmr;have z0:decide ((0:Int)≠0)=false:=rfl;by_cases hw:bM m=l
 ·rw[if_neg (by rintro(h|h|h);exact absurd h (by decide);exact h hck.1;exact h hw)];have dw:decide (bM m≠l)=false:=bq (λh=>h hw);have er:=cp m;unfold bV at er |-;rw[hcells] at er |-;generalize bM m=W at *;have zz:=aI @NK (aI @ME (aI @e0q (aI @m3 (aI @z0 (aI @dw (aI @ni (aI @aB (aI @aP @bm))))))));repeat' (first|refine zW ?_|apply a_n|refine zO ?_|refine vY ?_|refine cY ?_ (hp:=hmr) (hs:=by(first|refine aq ?_ rfl|apply az);(repeat' (first|exact ar|apply aO|apply ay|exact em|exact bv _));first|done|fail)|refine stY ?_|refine gTY ?_|refine cFY ?_|refine ae rfl ?_|refine r2Y ?_|fail)
  all_goals exact Dat.tup (DatL.cons er (DatL.cons .int DatL.nil)) _
 ·rw[if_pos (.inr (.inr hw))];have dw:decide (bM m≠l)=true:=bk hw;generalize bM m=W at *;have zz:=aI @NK (aI @ME (aI @e0q (aI @m3 (aI @z0 (aI @dw (aI @ni (aI @aB (aI @aP @bm))))))));repeat' (first|refine zW ?_|apply a_n|apply a_r|refine zO ?_|refine vY ?_|refine cY ?_ (hp:=hmr) (hs:=by(first|refine aq ?_ rfl|apply az);(repeat' (first|exact ar|apply aO|apply ay|exact em|exact bv _));first|done|fail)|refine stY ?_|refine gTY ?_|refine cTY ?_|refine ae rfl ?_|refine r2Y ?_|fail)
  all_goals exact fy
theorem Ca(m:MachV)(l:List UInt8)(hs:ShM m)(hl:Sh l):pU 4 [bV m,aW l] (.bool true):=by
 refine pO is4 ?_;simp only[b4,aS];have haw:=A6;have hfw:=Cx m hs;have em:=cp m;have hl':l.length<=9223372036854775807:=hl;by_cases hf:uN m=true/\¬(3000<l.length/\l.length<=65536)
 rotate_left
 ·cases hq:uN m with
  |false=>
   rw[hq] at hfw;unfold bV MachV.cells at *;have zz:=aI @ME @aH;repeat' (first|refine zW ?_|apply a_n|apply a_r|refine zO ?_|refine vZ ?_|refine cZ ?_ (hp:=by first|exact haw|exact hfw)|refine bxZ ?_|refine gFZ ?_|refine cTZ ?_|refine ae rfl ?_|refine r1Z ?_|fail)
   all_goals exact ap rfl
  |true=>
   rw[hq] at hfw;have hz:3000<l.length/\l.length<=65536:=Decidable.of_not_not λh=>hf ⟨hq,h⟩;have d1:decide ((3000:Int)<(l.length:Int))=true:=bk (by omega);have d2:decide ((l.length:Int)<=65536)=true:=bk (by omega);unfold bV MachV.cells at *;have zz:=aI @ME (aI @aH (aI @d1 @d2));repeat' (first|refine zW ?_|apply a_n|apply a_r|refine zO ?_|refine vZ ?_|refine cZ ?_ (hp:=by first|exact haw|exact hfw)|refine bxZ ?_|refine gTZ ?_|refine cTZ ?_|refine ae rfl ?_|refine r1Z ?_|fail)
   all_goals exact ap rfl
 obtain⟨hq,hz⟩:=hf;rw[hq] at hfw;have a1:=sq m hs;have a2:=pX m hs;have a3:=wS l hl;have a4:=zy l hl;have a5:=BA (dC l).1 (dC l).1 (uE l) (uE l);rw[bk rfl] at a5;have ep:=cp (dC l).1;generalize dX m=A at *;generalize dC l=C at *;have z1:decide (A.1=A.1)=true:=bk rfl;have z2:decide (A.2=A.2)=true:=bk rfl;have z6:decide (C.2=C.2)=true:=bk rfl;by_cases h3:3000<l.length
 ·have d1:decide ((3000:Int)<(l.length:Int))=true:=bk (by omega);have d2:decide ((l.length:Int)<=65536)=false:=bq (by omega);unfold bV MachV.cells at *;have zz:=aI @ME (aI @aH (aI @d1 (aI @d2 (aI @sI (aI @z1 (aI @z2 @z6))))));repeat' (first|refine zW ?_|apply a_n|refine zO ?_|refine vZ ?_|refine cZ ?_ (hp:=by first|exact haw|exact hfw|exact a1|exact a2|exact a3|exact a4|exact a5) (hs:=by(first|refine aq ?_ rfl|apply az);(repeat' (first|exact ar|apply aO|apply ay|exact em|exact ep|exact bv _));first|done|fail)|refine alZ ?_|refine bxZ ?_|refine stZ ?_|refine gTZ ?_|(refine zGZ ?_ ?_<;>(intro _hg;try (exfalso;omega)))|refine cFZ ?_|refine ae rfl ?_|refine r1Z ?_|fail)
  all_goals first|exact ap rfl|trace_state
 ·have d1:decide ((3000:Int)<(l.length:Int))=false:=bq (by omega);unfold bV MachV.cells at *;have zz:=aI @ME (aI @aH (aI @d1 (aI @sI (aI @z1 (aI @z2 @z6)))));repeat' (first|refine zW ?_|apply a_n|refine zO ?_|refine vZ ?_|refine cZ ?_ (hp:=by first|exact haw|exact hfw|exact a1|exact a2|exact a3|exact a4|exact a5) (hs:=by(first|refine aq ?_ rfl|apply az);(repeat' (first|exact ar|apply aO|apply ay|exact em|exact ep|exact bv _));first|done|fail)|refine alZ ?_|refine bxZ ?_|refine stZ ?_|refine gTZ ?_|refine gFZ ?_|(refine zGZ ?_ ?_<;>(intro _hg;try (exfalso;omega)))|refine cFZ ?_|refine ae rfl ?_|refine r1Z ?_|fail)
  all_goals first|exact ap rfl|trace_state
end
end Go.Proofs.Ytpbjhjkfobapeaa
