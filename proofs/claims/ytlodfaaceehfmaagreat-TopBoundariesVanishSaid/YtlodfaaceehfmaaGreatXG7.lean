/- Texts of this claim, one after the other: T186, T187, T229, T230, T231, T232, T233, T234, T235, T236, T237, T238, A57, T239, T188, T240, T241, T242, T118, T184, T149, T121. -/
import Derived.Test.YtlodfaaceehfmaaGreatXG6
import Derived.Test.YtlodfaaceehfmaaGreatXG4
import Derived.Test.YtlodfaaceehfmaaGreatXG3
import Derived.Test.YtlodfaaceehfmaaGreatXG5
import Derived.Test.YtlodfaaceehfmaaGreatRows
import Derived.WalkKit
import Derived.ProofKit
import Derived.OpenShut

set_option linter.unusedSimpArgs false
set_option linter.unusedVariables false
set_option maxHeartbeats 1000000
namespace Go.Proofs.YtlodfaaceehfmaaGreat
open Go Go.Abs
attribute [local irreducible] aM am bm be aX a6 aG aZ bf bI Go.Abs.Fn bc Go.Abs.Pure aB aQ Yl
theorem Gj (a b:List Int) (ha:a.length ≤ 1000000) (hb:b.length ≤ 1000000):Pure Tryz.prog 61 [aL a,aL b] (.bool (i9 a b)):=by
 refine Pure.of_c2 follows JS (br rfl) ?_;simp only [b61,aU];have hs:=yo a b (by omega) (by omega);have hl:=n9 _ a b (aP _);unfold i9;generalize co a b=S at *
 have hq:∀ tb tf,bh .quo tb tf (.int .i64 ((a.length:Int) + b.length - S.length)) (.int .i64 2)=some (.int .i64 (((a.length + b.length - S.length) / 2:Nat):Int)):=fun tb tf=>by
  rw [oo (by omega) (by omega) (by omega)]
  congr 2; omega
 have hr:∀ tb tf,bh .rem tb tf (.int .i64 (((a.length + b.length - S.length) / 2:Nat):Int)) (.int .i64 2)=some (.int .i64 (((a.length + b.length - S.length) / 2 % 2:Nat):Int)):=fun tb tf=>by
  rw [qR (by omega) (by omega)]
  congr 2
 have z:decide ((((a.length + b.length - S.length) / 2 % 2:Nat):Int)=1)=decide ((a.length + b.length - S.length) / 2 % 2=1):=decide_eq_decide.2 (by omega);have zz:=aI @dX (aI @hq (aI @hr @z)); repeat' (first|refine zW ?_|apply a_n|refine zO ?_|refine vY ?_|refine cY ?_ (hp:=hs) (hs:=by (first | refine af ?_ rfl | apply ag); (repeat' (first | exact ac | apply an | apply ah | exact bE _)); first | done | fail)|refine ak rfl ?_|refine r1Y ?_|fail)
 exact .bool _
theorem Ji {l:List (List Int)} {k:Nat} (h:k < l.length):eG 1 (cI l) (.int .i64 (k:Int))=some (.iptr [aL (l.getD k default)] 0):=by
 rw [sM,if_pos ⟨by omega,by omega⟩,cQ]
theorem sa {l:List (List Int)}:d4 (cI l)=some (.int .i64 l.length):=qe
theorem Ai {n:Nat} {v:List Int} (h:jv n v=0):∃ w:List Nat,v=bF w∧w.Pairwise (· < ·)∧∀ j ∈ w,j < n:=by
 have hall:=fY h;have hk:=fun k (hk:k < v.length)=>GK (hall k hk)
 have hm:∀ x ∈ v,0 ≤ x∧x < n:=fun x hx=>by
  obtain ⟨k,h1,h2⟩:=jW hx;have:=hk k h1;have e:v.getD k default=x:=by simp [List.getD,h1,h2]
  rw [e] at this;exact ⟨this.1,this.2.1⟩
 have hasc:bw v:=by
  have hchain:∀ j i,i < j→j < v.length→v.getD i default < v.getD j default:=fun j=>by
   induction j with
   | zero=>intro i hi; omega
   | succ j ih =>
    intro i hi hj;have q:=(hk (j + 1) hj).2.2 (by omega);rw [qF] at q;rcases (by omega:i < j ∨ i=j) with h | rfl
    ·have:=ih i h (by omega); omega
    ·exact q
  unfold bw;rw [mQ];intro i j hi hj hij;have:=hchain j i hij hj;simpa [List.getD,hi,hj] using this
 refine ⟨v.map Int.toNat,?_,?_,fun j hj=>?_⟩
 ·unfold bF;rw [List.map_map]
  symm
  refine (pW fun x hx=>?_).trans (List.map_id v);have:=(hm x hx).1;show ((x.toNat:Nat):Int)=x;omega
 ·rw [List.pairwise_map];exact List.Pairwise.imp_of_mem (fun {x y} hx hy hxy=>by have:=(hm x hx).1; omega) hasc
 ·obtain ⟨x,hx,rfl⟩:=bP.1 hj;have:=hm x hx; omega
theorem BE {X:List Spx} {w:List Nat}:gH X (bF w)=w.map fun j=>X.getD j default:=by
 unfold gH bF;rw [List.map_map];exact pW fun j _=>rfl
theorem tM {c:List Spx} {k:Nat} {v:List Int} (hc:aO c=0) (hc50:c.length ≤ 50) (hk:k < 8) (hv:v.length ≤ 400) (h:jv (aD c (k + 1)).length v=0) :
    ∃ a b,tv c k v=(a,0)∧lG c a=(v,0)∧iH a=(b,0)∧gf a=0∧ShC a∧ShC b∧lg c k=(((((aD c (k + 1)).length:Nat):Int),dQ (aD c (k + 1)) (aD c k)),0)∧lG c b=(bF (cU (dQ (aD c (k + 1)) (aD c k)) v),0)∧b=cp a∧gf b=0∧(∀ s ∈ a,s.length=k + 1)∧(∀ s ∈ b,s.length=k)∧(∀ s ∈ b,s ∈ aD c k)∧bF (cU (dQ (aD c (k + 1)) (aD c k)) v)=bF (pO (aD c k) b):=by
 obtain ⟨w,rfl,hw,hb⟩:=Ai h;have hXs:=iI (d:=(k:Int) + 1) hc;have hXa:=mB (c:=c) (d:=(k:Int) + 1);have hXm:=fun s=>jn (c:=c) (d:=(k:Int) + 1) (s:=s);have hXf:=fun s f=>zp (c:=c) (d:=(k:Int)) (s:=s) (f:=f);have hYa:=mB (c:=c) (d:=(k:Int));have hYm:=fun s=>jn (c:=c) (d:=(k:Int)) (s:=s);have hwl:w.length ≤ 400:=by unfold bF at hv; rwa [bO] at hv
 have e1:tv c k (bF w)=(w.map fun j=>(aD c (k + 1)).getD j default,0):=by
  unfold tv;rw [if_neg (fun h=>h hc),if_neg (by omega),if_neg (fun q=>q h),BE]
 have e5:lg c k=(((((aD c (k + 1)).length:Nat):Int),dQ (aD c (k + 1)) (aD c k)),0):=by
  unfold lg;rw [if_neg (fun h=>h hc),if_neg (by omega)]
 have hvec:∀ a:List Spx,gf a=0→(a=[] ∨ ∃ d:Nat,kH a=d∧∀ s ∈ a,s ∈ aD c d)→lG c a=(bF (pO (aD c (kH a)) a),0):=fun a ha hr=>by
  unfold lG;rw [if_neg (fun h=>h hc),if_neg (fun h=>h ha)];rcases hr with rfl | ⟨d,hd,hr⟩
  ·rw [if_pos rfl]; rfl
  ·by_cases h0:a=[]
   ·subst h0; rw [if_pos rfl]; rfl
   ·rw [if_neg h0,if_pos (eH.2 fun s hs=>bt (by rw [hd]; exact hr s hs))]
 have hXe:aD c (((k + 1:Nat)):Int)=aD c ((k:Int) + 1):=by rw [show (((k + 1:Nat)):Int)=(k:Int) + 1 by omega]
 generalize aD c ((k:Int) + 1)=X at *
 have hsub:∀ s ∈ w.map (fun j=>X.getD j default),s ∈ X:=fun s hs=>by
  obtain ⟨j,hj,rfl⟩:=bP.1 hs;exact aE (hb j hj)
 have hlen:∀ s ∈ w.map (fun j=>X.getD j default),s.length=k + 1:=fun s hs=>by
  have:=((hXm s).1 (hsub s hs)).2.1; omega
 have hasc:bQ bG (w.map fun j=>X.getD j default):=by
  unfold bQ;rw [List.pairwise_map];exact List.Pairwise.imp_of_mem (fun {i j} hi hj hij=>dJ hXa hij (hb j hj)) hw
 have hsim:∀ s ∈ w.map (fun j=>X.getD j default),bR s=0:=fun s hs=>hXs s (hsub s hs)
 have hpos:pO X (w.map fun j=>X.getD j default)=w:=by
  unfold pO;rw [List.map_map];refine (pW fun j hj=>?_).trans (List.map_id w);exact uM (hXa.nodup iM) (hb j hj)
 have hap:=zD (X:=X) (Y:=aD c k) (fO hXs) hYa hw hb (fun s hs=>by
  obtain ⟨t,t1,t2⟩:=iE (fun s hs=>fO hXs s (hsub s hs)) hs;exact hXf t s (hsub t t1) t2)
 have hin:∀ s ∈ cp (w.map fun j=>X.getD j default),s ∈ aD c k:=fun s hs=>by
  obtain ⟨t,t1,t2⟩:=iE (fun s hs=>fO hXs s (hsub s hs)) hs;exact hXf t s (hsub t t1) t2
 have hwl2:(w.map fun j=>X.getD j default).length ≤ 400:=by rw [bO]; exact hwl
 have hl0:0 < w.length→kH (w.map fun j=>X.getD j default)=k + 1:=fun h0=>hlen _ (aE (by rw [bO]; exact h0));have hw0:w.length=0→(w.map fun j=>X.getD j default)=[]:=fun h0=>by rw [fo.1 h0]; rfl
 have hpos2:w.length=0→w=[]:=fun h0=>fo.1 h0;generalize (w.map fun j=>X.getD j default)=a at *;have hca:gf a=0:=Ap (n:=k + 1) (by omega) hsim hasc hlen;have hcb:=CE hca (by omega);have hsame:=uN (fO hsim) hlen;refine ⟨a,cp a,e1,?_,CS hca (by omega),hca,ul (by omega) hsim,ul (by have:=(nK hcb).1; omega) (pn hsim),e5,?_,rfl,hcb,hlen,fun s hs=>by have:=hsame s hs; omega,hin,hap⟩
 ·by_cases h0:w.length=0
  ·rw [hvec a hca (.inl (hw0 h0)),hw0 h0,hpos2 h0]; rfl
  ·have h1:kH a=k + 1:=hl0 (by omega);rw [hvec a hca (.inr ⟨k + 1,h1,fun s hs=>by rw [hXe]; exact hsub s hs⟩),h1,hXe,hpos]
 ·by_cases h0:cp a=[]
  ·rw [hvec _ hcb (.inl h0),hap,h0]; rfl
  ·have h1:kH (cp a)=k:=by
     have:=hsame _ (aE (nB.2 h0));unfold kH; omega
   rw [hvec _ hcb (.inr ⟨k,h1,hin⟩),hap,h1];rfl
end Go.Proofs.YtlodfaaceehfmaaGreat
namespace Go.Proofs.YtlodfaaceehfmaaGreat
open Go Go.Abs
theorem nq (v:Int) (ks:List Int):cJ (.one .int) (.int .i64 v) (ks.map (AV.int .i64))=some (if v ∈ ks then some (ks.idxOf v) else none) :=
 mq _ (AV.int .i64) (fun a b=>rfl) v ks
theorem Ju (v:Int):∀ {l:List Int},bw l→∃ b,b ≤ l.length∧(∀ i,i < b→l.getD i default < v)∧∀ i,b ≤ i→i < l.length→v ≤ l.getD i default
 | [],_=>⟨0,aP _,fun i h=>absurd h (by omega),fun i _ h=>absurd h (by simp)⟩
 | x :: l,h=>by
  obtain ⟨h1,h2⟩:=gS.1 h;by_cases hx:x < v
  ·obtain ⟨b,b1,b2,b3⟩:=Ju v h2;refine ⟨b + 1,by simp; omega,fun i hi=>?_,fun i hi hl=>?_⟩
   ·match i with
    | 0=>exact hx
    | i + 1=>exact b2 i (by omega)
   ·match i with
    | 0=>omega
    | i + 1=>exact b3 i (by omega) (by simp at hl; omega)
  ·refine ⟨0,cf _,fun i h=>absurd h (by omega),fun i _ hl=>?_⟩
   match i with
   | 0=>show v ≤ x; omega
   | i + 1 =>
    have:=h1 (l.getD i default) (aE (by simp at hl; omega));show v ≤ l.getD i default;omega
theorem GQ {v:Int} {l:List Int} {b:Nat} (h1:∀ i,i < b→l.getD i default < v) (h2:∀ i,b ≤ i→i < l.length→v ≤ l.getD i default) (ha:bw l):(decide (b < l.length) && decide (l.getD b default=v))=decide (v ∈ l):=by
 by_cases hm:v ∈ l
 ·obtain ⟨i,hi,e⟩:=jW hm;have e':l.getD i default=v:=by simp [List.getD,hi,e]
  have hbi:b=i:=by
   rcases sg b i with h | h | h
   ·have h3:=h2 b (aP _) (by omega);have h4:=mQ.1 ha b i (by omega) hi h;have e5:l.getD b default=l[b]:=by simp [List.getD,show b < l.length by omega]
    omega
   ·exact h
   ·have:=h1 i h; omega
  subst hbi;rw [bt hi,bt hm,bt e']; rfl
 ·rw [bj hm];by_cases hlt:b < l.length
  ·rw [bt hlt,Bool.true_and,bj];intro h;exact hm (by rw [← h]; exact aE hlt)
  ·rw [bj hlt,Bool.false_and]
attribute [local irreducible] aM am bm be aX a6 aG aZ bf bI Go.Abs.Fn bc Go.Abs.Pure aB aQ Yl
theorem Fg (x y:Int):Pure Tryz.prog 123 [.int .i64 x,.int .i64 y] (.bool (decide (x < y))):=by
 have h1:=jr x;have h2:=jr y;refine Pure.of_c2 follows IA (br rfl) ?_;simp only [Jv,aU]
 repeat' (first|refine zW ?_|apply a_n|refine zO ?_|refine vZ ?_|refine cZ ?_ (hp:=by first | exact h1 | exact h2)|refine gTZ ?_|refine gFZ ?_|refine ak rfl ?_|refine r1Z ?_|fail)
 exact .bool _
theorem zy (l:List Int) (v:Int) (hl:l.length ≤ 1000000000) (ha:bw l):∃ b:Nat,Pure Tryz.prog 107 [aL l,.int .i64 v] (.tup [.int .i64 b,.bool (decide (v ∈ l))]):=by
 obtain ⟨b,hb,h1,h2⟩:=Ju v ha;refine ⟨b,?_⟩;rw [← GQ h1 h2 ha];refine Pure.of_c2 follows IM (br rfl) ?_;simp only [IT,aU];have zz:=@dX; repeat' (first|refine zW ?_|apply a_n|refine zO ?_|refine vZ ?_|fail)
 refine oN (X:=Nat × Nat) (fun x=>[(0,aL l),(1,.int .i64 v),(6,.int .i64 l.length),(7,.int .i64 x.1),(8,.int .i64 x.2)]) (fun x=>x.1 ≤ b∧b ≤ x.2∧x.2 ≤ l.length) (fun x=>x.2 - x.1) (0,l.length) ⟨cf _,hb,aP _⟩ ag0 ?_;rintro ⟨i,j⟩ ⟨g1,g2,g3⟩;dsimp only at g1 g2 g3 ⊢;by_cases hij:i < j
 ·have hh:(i + j) / 2 < l.length:=by omega
  have hc:=Fg (l.getD ((i + j) / 2) default) v;have ix:=ixV hh;by_cases hn:l.getD ((i + j) / 2) default < v
  ·rw [bt hn] at hc;have hbb:(i + j) / 2 < b:=Nat.lt_of_not_le fun h=>by have:=h2 _ h hh; omega
   clear zz;have zz:=aI @dX (aI @gz (aI @AS @ix)); repeat' (first|refine zW ?_|apply a_n|refine zO ?_|refine vZ ?_|refine cZ ?_ (hp:=hc)|refine cTZ ?_|(refine zGZ ?_ ?_ <;> (intro _hg; try (exfalso; omega)))|fail)
   exact ⟨((i + j) / 2 + 1,j),⟨by omega,by omega,by omega⟩,by dsimp only; omega,ag0,rfl,rfl⟩
  ·rw [bj hn] at hc;have hbb:b ≤ (i + j) / 2:=Nat.le_of_not_lt fun h=>hn (h1 _ h);clear zz;have zz:=aI @dX (aI @gz (aI @AS @ix)); repeat' (first|refine zW ?_|apply a_n|refine zO ?_|refine vZ ?_|refine cZ ?_ (hp:=hc)|refine cFZ ?_|(refine zGZ ?_ ?_ <;> (intro _hg; try (exfalso; omega)))|fail)
   exact ⟨(i,(i + j) / 2),⟨by omega,by omega,by omega⟩,by dsimp only; omega,ag0,rfl,rfl⟩
 ·have ei:i=b:=by omega
  have ej:j=b:=by omega
  clear zz;clear hij g1 g2 g3;subst ei;have dij:decide ((i:Int) < (j:Int))=false:=bj (by omega);by_cases hlt:i < l.length
  ·have hc:=jr (l.getD i default);have ix:=ixV hlt;have hna:=jr v
   have hn2:∀ n:Int,Pure Tryz.prog 124 [.int .i64 n] (.bool false):=fun n=>by
    refine Pure.of_c2 follows H8 (br rfl) ?_;simp only [IP,aU]
    repeat' (first|refine zW ?_|apply a_n|refine zO ?_|refine vZ ?_|refine ak rfl ?_|refine r1Z ?_|fail)
    exact cu (by simp)
   have dlt:decide ((i:Int) < (l.length:Int))=true:=bt (by omega);by_cases hv:l.getD i default=v
   ·have dv:decide (l.getD i default=v)=true:=bt hv;rw [dv,bt hlt,Bool.true_and];have zz:=aI @dX (aI @ix (aI @dlt (aI @dij @dv))); repeat' (first|refine zW ?_|apply a_n|apply a_x|refine zO ?_|refine vZ ?_|refine gTZ ?_|refine gFZ ?_|refine cFZ ?_|refine ak rfl ?_|refine r2Z ?_|fail)
    exact cm (ar (.int _ _) (ar (.bool _) ac))
   ·have dv:decide (l.getD i default=v)=false:=bj hv;rw [dv,Bool.and_false];have zz:=aI @dX (aI @ix (aI @dlt (aI @dij @dv))); repeat' (first|refine zW ?_|apply a_n|apply a_x|refine zO ?_|refine vZ ?_|refine cZ ?_ (hp:=by exact hn2 _)|refine gTZ ?_|refine gFZ ?_|refine cFZ ?_|refine ak rfl ?_|refine r2Z ?_|fail)
    exact cm (ar (.int _ _) (ar (.bool _) ac))
  ·have dlt:decide ((i:Int) < (l.length:Int))=false:=bj (by omega);rw [bj hlt,Bool.false_and];have zz:=aI @dX (aI @dlt @dij); repeat' (first|refine zW ?_|apply a_n|apply a_x|refine zO ?_|refine vZ ?_|refine gFZ ?_|refine cFZ ?_|refine ak rfl ?_|refine r2Z ?_|fail)
   exact cm (ar (.int _ _) (ar (.bool _) ac))
theorem HF (l:List Int) (v:Int) (hl:l.length ≤ 1000000000) (ha:bw l):Pure Tryz.prog 84 [aL l,.int .i64 v] (.bool (decide (v ∈ l))):=by
 obtain ⟨b,hb⟩:=zy l v hl ha;refine Pure.of_c2 follows JY (br rfl) ?_;simp only [b84,aU]
 repeat' (first|refine zW ?_|apply a_n|refine zO ?_|refine vZ ?_|refine cZ ?_ (hp:=hb) (hs:=by (first | refine af ?_ rfl | apply ag); (repeat' (first | exact ac | apply an | apply ah | exact bE _)); first | done | fail)|refine ak rfl ?_|refine r1Z ?_|fail)
 exact .bool _
end Go.Proofs.YtlodfaaceehfmaaGreat
namespace Go.Proofs.YtlodfaaceehfmaaGreat
open Go Go.Abs
def BL (c n:Nat) (x:Ln):Prop:=(∀ z ∈ x.1,0 ≤ z∧z < (c:Int))∧∀ j ∈ x.2,0 ≤ j∧j < (n:Int)
theorem oY {a:List Int} {c:Nat} (ha:bw a) (h:∀ z ∈ a,0 ≤ z∧z < (c:Int)):a.length ≤ c:=by
 have hn:a.Nodup:=tH (fun {x y} (q:x < y) e=>by omega) ha
 have:=xy hn (l₂:=(List.range c).map fun (k:Nat)=>(k:Int)) fun z hz=>by
  have:=h z hz;exact bP.2 ⟨z.toNat,ew.2 (by omega),by show ((z.toNat:Nat):Int)=z; omega⟩
 simpa using this
theorem BL.len {c n:Nat} {x:Ln} (h:BL c n x) (ha:cq x):x.1.length ≤ c∧x.2.length ≤ n:=⟨oY ha.1 h.1,oY ha.2 h.2⟩
theorem BL.add {c n:Nat} {x l:Ln} (hx:BL c n x) (hl:BL c n l) (ax:cq x) (al:cq l):BL c n (dU x l):=by
 refine ⟨fun z hz=>?_,fun z hz=>?_⟩
 ·rcases (dV ax.1 al.1).1 hz with q | q
  ·exact hx.1 z q.1
  ·exact hl.1 z q.1
 ·rcases (dV ax.2 al.2).1 hz with q | q
  ·exact hx.2 z q.1
  ·exact hl.2 z q.1
theorem zJ {c n:Nat} {p:Ln→Bool}:∀ {M:List Ln} {x:Ln},(∀ l ∈ M,cq l∧BL c n l)→cq x→BL c n x→BL c n (rdL M p x)
 | [],_,_,_,h=>h
 | l :: M,x,hM,hx,h=>by
  unfold rdL;rw [List.foldl_cons];have hl:=hM l di;have hM':=fun m hm=>hM m (d6 _ hm);show BL c n (rdL M p (if p l=true then dU x l else x));split
  ·exact zJ hM' (eA hx hl.1) (h.add hl.2 hx hl.1)
  ·exact zJ hM' hx h
theorem xS:∀ {i:Nat} {a b:List Int},i ≤ a.length→(∀ j,j < i→∀ z ∈ b,a.getD j default < z)→∀ j,j < i→(co a b).getD j default=a.getD j default
 | 0,_,_,_,_,j,hj=>absurd hj (by omega)
 | i + 1,[],_,h,_,_,_=>absurd h (by simp)
 | i + 1,x :: a,[],h,_,j,_=>by rw [ga]
 | i + 1,x :: a,y :: b,h,hz,j,hj=>by
  have h0:x < y:=hz 0 (by omega) y di;rw [nN,if_pos h0]
  match j with
  | 0=>rfl
  | j + 1=>exact xS (i:=i) (a:=a) (b:=y :: b) (by simpa using h) (fun k hk z hz'=>hz (k + 1) (by omega) z hz') j (by omega)
theorem uX:∀ {i:Nat} {a b:List Int},i ≤ a.length→(∀ j,j < i→∀ z ∈ b,a.getD j default < z)→i ≤ (co a b).length
 | 0,_,_,_,_=>cf _
 | i + 1,[],_,h,_=>absurd h (by simp)
 | i + 1,x :: a,[],h,_=>by rw [ga]; exact h
 | i + 1,x :: a,y :: b,h,hz=>by
  have h0:x < y:=hz 0 (by omega) y di;rw [nN,if_pos h0,bN];have:=uX (i:=i) (a:=a) (b:=y :: b) (by simpa using h) (fun k hk z hz'=>hz (k + 1) (by omega) z hz');omega
theorem CG {M:List Ln} {p q:Ln→Bool} {l:Ln} (h:∀ m ∈ M,q m=true→p m=true) (hl:l ∈ M) (h1:p l=true) (h2:q l=false):M.countP q < M.countP p:=by
 induction M with
 | nil=>cases hl
 | cons m M ih =>
  rw [List.countP_cons,List.countP_cons];have hle:M.countP q ≤ M.countP p:=List.countP_mono_left fun x hx=>h x (d6 _ hx);rcases dw.1 hl with rfl | hl
  ·rw [if_pos h1,if_neg (by rw [h2]; decide)]; omega
  ·have:=ih (fun x hx=>h x (d6 _ hx)) hl;have h3:=h m di;by_cases hq:q m=true
   ·rw [if_pos hq,if_pos (h3 hq)]; omega
   ·rw [if_neg hq]; split <;> omega
def nL (M:List Ln) (x:Ln):Nat:=M.countP fun l=>decide (ld l.1 ∈ x.1)
theorem HK {M:List Ln} {x l:Ln} (hM:RedU M) (hx:cq x) (hl:l ∈ M) (h:ld l.1 ∈ x.1):nL M (dU x l) < nL M x:=by
 have hla:=hM.asc l hl;refine CG (l:=l) (fun m hm hq=>?_) hl (bt h) (bj fun hq=>?_)
 ·have hq:=wr hq;refine bt ?_;rcases (dV hx.1 hla.1).1 hq with q | q
  ·exact q.1
  ·have:=hM.own m hm l hl q.1;rw [← this]; exact h
 ·rcases (dV hx.1 hla.1).1 hq with q | q
  ·exact q.2 (de (hM.ne l hl))
  ·exact q.2 h
def bV (M:List Ln):List Int:=M.map fun l=>ld l.1
def eu (x:Ln):AV:=.agg [aL x.1,aL x.2]
def LM (H:Hp) (m:Nat) (M:List Ln):Prop:=H m=some [.omap ((bV M).map (AV.int .i64)) (M.map eu)]
theorem uu {M:List Ln} {v:Int} (h:v ∈ bV M):∃ l ∈ M,ld l.1=v∧(M.map eu).getD ((bV M).idxOf v) .undef=eu l:=by
 have hi:=pN.2 h;have h2:(bV M)[(bV M).idxOf v]=v:=List.getElem_idxOf hi;generalize (bV M).idxOf v=i at *;have hi':i < M.length:=by unfold bV at hi; simpa using hi
 refine ⟨M[i],mM hi',?_,?_⟩
 ·have h3:(bV M)[i]'hi=ld M[i].1:=List.getElem_map ..;rw [← h3]; exact h2
 ·simp [List.getD,hi']
theorem mh {M:List Ln} {v:Int}:v ∈ bV M ↔ ∃ l ∈ M,ld l.1=v:=by unfold bV; rw [bP]
theorem HS {T:Tm} {S:Hp} {m:Nat} {ks:List Int} {vs:List AV} {mo ko:Opd} {v:Int} {z:AV} {ok:Bool} (h1:ov T mo=.mp m) (h2:S m=some [.omap (ks.map (AV.int .i64)) vs]) (h3:ov T ko=.int .i64 v):ilk T S (.mget (.one .int) z ok mo ko)=some (Go.Abs.mget z ok (if v ∈ ks then some (ks.idxOf v) else none) vs):=by
 show lkS _ _ _ (ov T mo) (ov T ko) S=_;rw [h1,h3];simp only [lkS,h2,nq];rfl
attribute [local irreducible] aM am bm be aX a6 aG aZ bf bI Go.Abs.Fn bc Go.Abs.Pure aB aQ Yl
set_option maxHeartbeats 1000000 in
theorem Et (M:List Ln) (c n:Nat) (hc:c ≤ 4096) (hn:n ≤ 4096) (hM:RedU M) (hMb:∀ l ∈ M,BL c n l) (x:Ln) (hx:cq x) (hxb:BL c n x) {a:AV} {Hf HA H:Hp} (hfz:Fz Hf HA H) (hs:Snap Hf a (eu x)) {nx m lb:Nat} (hlb:lb < nx) (hm:m < nx) (hne:m ≠ lb) (h1:H lb=some [.mp m]) (h2:LM H m M) :
    Abs.Fn Tryz.prog 81 [a,.ptr lb 1 0] HA nx fun r H' nx'=>r=eu (eP M x)∧(∀ b,b < nx→H' b=H b)∧nx ≤ nx':=by
 refine Abs.Fn.of_c2 follows JI (br rfl) ?_;simp only [b81,aU];have hx0:eu x=.agg [aL x.1,aL x.2]:=rfl;refine dt ?_;refine qY Hf H [(0,eu x),(1,.ptr lb 1 0)] hfz ⟨.inr hs,.inl rfl,trivial⟩ ?_;rw [hx0];clear hs hfz;have zz:=@h1; repeat' (first|refine zW ?_|apply a_n|refine zO ?_|refine vY ?_|refine alY ?_|refine bxY ?_|fail)
 refine bC (X:=Ln × Nat) (fun y=>[(1,.ptr lb 1 0),(2,.ptr nx 2 0),(3,.ptr (nx + 1) 2 0),(4,.int .i64 y.2)]) (fun y H' nx'=>y.2 ≤ y.1.1.length∧nx + 2 ≤ nx'∧cq y.1∧BL c n y.1∧eP M y.1=eP M x∧(∀ j,j < y.2→∀ l ∈ M,ld l.1 ≠ y.1.1.getD j default)∧H' nx=some [aL y.1.1,aL y.1.2]∧H' (nx + 1)=some [.esl,.esl]∧∀ b,b < nx→H' b=H b) (fun y=>nL M y.1 * 10000 + (y.1.1.length - y.2)) (x,0) ⟨cf _,aP _,hx,hxb,rfl,fun j h=>absurd h (by omega),by rw [ae (by omega),ai],by rw [ai],fun b hb=>by rw [ae (by omega),ae (by omega)]⟩ (by (iterate 4 refine And.intro rfl ?_); trivial) ?_;clear zz;clear hx hxb hx0;rintro ⟨y,i⟩ H' nx' ⟨g1,g2,g3,g4,g5,g6,g7,g8,g9⟩;dsimp only at g1 g2 g3 g4 g5 g6 g7 g8 g9 ⊢;obtain ⟨l1,l2⟩:=g4.len g3;have k1:H' lb=some [.mp m]:=(g9 lb hlb).trans h1;have k2:LM H' m M:=(g9 m hm).trans h2;by_cases hi:i < y.1.length
 rotate_left
 ·have hr:eP M y=y:=Cl hM g3 fun l hl hz=>by
    obtain ⟨j,hj,e⟩:=jW hz;refine g6 j (by omega) l hl ?_;rw [← e]; simp [List.getD,hj]
  have z:decide ((i:Int) < y.1.length)=false:=bj (by omega);rw [← g5,hr];have zz:=aI @dX (aI @z (aI @g7 @g8)); repeat' (first|refine zW ?_|apply a_n|apply a_x|refine zO ?_|refine vY ?_|refine stY ?_|refine cFY ?_|refine ak rfl ?_|refine r1Y ?_|fail)
  exact ⟨rfl,fun b hb=>by rw [ae (by omega)]; exact g9 b hb,by omega⟩
 have z:decide ((i:Int) < y.1.length)=true:=bt (by omega);have ix:=ixV hi;have hvm:=aE hi;generalize hv:y.1.getD i default=v at *;have zz:=aI @dX (aI @z (aI @ix @g7)); repeat' (first|refine zW ?_|apply a_n|refine zO ?_|refine vY ?_|refine cTY ?_|fail)
 refine zZ lb m nx k1 k2 g7 (by omega) (by omega) (by omega) fun S hS1 hS2 hS3 hsub=>?_;clear zz;have zz:=aI @hS1 (aI @hS2 (aI @hS3 @ix)); repeat' (first|apply a_n|refine zO ?_|refine nvY ?_|fail)
 simp only [dR,List.map_nil,List.getD_cons_succ,List.getD_cons_zero];by_cases hk:v ∈ bV M
 rotate_left
 ·have hmg:Go.Abs.mget (.agg [.esl,.esl]) true (if v ∈ bV M then some ((bV M).idxOf v) else none) (M.map eu)=.tup [.agg [.esl,.esl],.bool false]:=by rw [if_neg hk]; rfl
  refine HO (HS ev0 hS2 ev0) ?_;rw [hmg]
  repeat' (first|apply a_n|refine zO ?_|refine nvY ?_|fail)
  refine iu ?_
  repeat' (first|apply a_n|refine zO ?_|refine alY ?_|fail)
  refine ⟨hsub _ (by rw [ae (by omega)]; exact k1) (by rw [ae (by omega)]; exact k2) (by rw [ae (by omega)]; exact g7),?_⟩
  repeat' (first|refine zW ?_|apply a_n|apply a_x|refine zO ?_|refine vY ?_|refine nvY ?_|apply kq|refine stY ?_|refine cTY ?_|fail)
  refine ⟨(y,i + 1),by dsimp only; omega,⟨by dsimp only; omega,by omega,g3,g4,g5,fun j hj l hl=>?_,by rw [ae (by omega),ae (by omega)]; exact g7,by rw [ae (by omega),ae (by omega)]; exact g8,fun b hb=>by rw [ae (by omega),ae (by omega)]; exact g9 b hb⟩,ag0⟩;dsimp only;rcases (by omega:j < i ∨ j=i) with q | rfl
  ·exact g6 j q l hl
  ·rw [hv]; exact fun e=>hk (mh.2 ⟨l,hl,e⟩)
 obtain ⟨l,hl,hld,hgd⟩:=uu hk
 have hmg:Go.Abs.mget (.agg [.esl,.esl]) true (if v ∈ bV M then some ((bV M).idxOf v) else none) (M.map eu)=.tup [.agg [aL l.1,aL l.2],.bool true]:=by
  rw [if_pos hk];show AV.tup [(M.map eu).getD ((bV M).idxOf v) .undef,.bool true]=_;rw [hgd]; rfl
 refine HO (HS ev0 hS2 ev0) ?_;rw [hmg]
 repeat' (first|apply a_n|refine zO ?_|refine nvY ?_|fail)
 refine iu ?_
 repeat' (first|apply a_n|refine zO ?_|refine alY ?_|fail)
 refine ⟨hsub _ (by rw [ae (by omega)]; exact k1) (by rw [ae (by omega)]; exact k2) (by rw [ae (by omega)]; exact g7),?_⟩
 repeat' (first|refine zW ?_|apply a_n|refine zO ?_|refine vY ?_|refine nvY ?_|apply kq|refine stY ?_|refine cFY ?_|fail)
 have hla:=hM.asc l hl;have hlb':=hMb l hl;obtain ⟨l3,l4⟩:=hlb'.len hla;have hs1:=yo y.1 l.1 (by omega) (by omega);have hs2:=yo y.2 l.2 (by omega) (by omega)
 have hlt:∀ j,j < i→∀ w ∈ l.1,y.1.getD j default < w:=fun j hj w hw=>by
  have h5:=m8 hla.1 hw;have h6:=mQ.1 g3.1 j i (by omega) hi hj;have e1:y.1.getD j default=y.1[j]:=by simp [List.getD,show j < y.1.length by omega]
  have e2:y.1.getD i default=y.1[i]:=by simp [List.getD,hi]
  omega
 have hp1:=xS (i:=i) (a:=y.1) (b:=l.1) (by omega) hlt;have hp2:=uX (i:=i) (a:=y.1) (b:=l.1) (by omega) hlt;have hnl:=HK hM g3 hl (by rw [hld]; exact hvm);have ha':=eA g3 hla;have hb':=g4.add hlb' g3 hla;obtain ⟨l5,_⟩:=hb'.len ha';have hrx:=B8 hM g3 hl;have e7:aq (aq H' nx' [AV.esl,AV.esl]) nx' (bK [AV.esl,AV.esl] 0 [aL l.1,aL l.2]) nx'=some [aL l.1,aL l.2]:=by rw [ai]; rfl
 have e8:aq (aq H' nx' [AV.esl,AV.esl]) nx' (bK [AV.esl,AV.esl] 0 [aL l.1,aL l.2]) nx=some [aL y.1,aL y.2]:=by rw [ae (by omega),ae (by omega)]; exact g7
 have e9:∀ b,b ≠ nx→b < nx'→aq (aq H' nx' [AV.esl,AV.esl]) nx' (bK [AV.esl,AV.esl] 0 [aL l.1,aL l.2]) b=H' b:=fun b h1 h2=>by rw [ae (by omega),ae (by omega)]
 generalize aq (aq H' nx' [AV.esl,AV.esl]) nx' (bK [AV.esl,AV.esl] 0 [aL l.1,aL l.2])=H2 at *;have hadd:dU y l=(co y.1 l.1,co y.2 l.2):=rfl;generalize co y.1 l.1=s1 at *;generalize co y.2 l.2=s2 at *;clear zz;have zz:=aI @e7 @e8; repeat' (first|refine zM ?_|apply a_n|refine zO ?_|refine vY ?_|refine cY ?_ (hp:=by first | exact hs1 | exact hs2) (hs:=by (first | refine af ?_ rfl | apply ag); (repeat' (first | exact ac | apply an | apply ah | exact bE _)); first | done | fail)|refine stY ?_|fail)
 refine ⟨((s1,s2),i),?_,⟨hp2,by omega,by rw [← hadd]; exact ha',by rw [← hadd]; exact hb',by rw [← hadd,hrx]; exact g5,fun j hj l' hl'=>by dsimp only; rw [hp1 j hj]; exact g6 j hj l' hl',by rw [ai]; rfl,by rw [ae (by omega),e9 _ (by omega) (by omega)]; exact g8,fun b hb=>by rw [ae (by omega),e9 _ (by omega) (by omega)]; exact g9 b hb⟩,ag0⟩;rw [hadd] at hnl l5;dsimp only at hnl l5 ⊢;omega
end Go.Proofs.YtlodfaaceehfmaaGreat
namespace Go.Proofs.YtlodfaaceehfmaaGreat
open Go Go.Abs
open Nat (reduceEqDiff reduceAdd reduceLeDiff)
def cLs (l:List Ln):List AV:=l.flatMap fun x=>[aL x.1,aL x.2]
def li (l:List Ln):AV:=il 2 eu l
theorem Ei {l:List Ln} {x:Ln}:cLs (l ++ [x])=cLs l ++ [aL x.1,aL x.2]:=by unfold cLs; simp
theorem Be {l:List Ln}:(cLs l).length=l.length * 2:=by
 induction l with
 | nil=>rfl
 | cons x l ih=>show ([aL x.1,aL x.2] ++ cLs l).length=_; rw [dr,ih,bN]; simp; omega
theorem Fx {l:List Ln}:cLs l=(l.map eu).flatMap AV.cells:=by
 induction l with
 | nil=>rfl
 | cons x l ih=>show [aL x.1,aL x.2] ++ cLs l=_; rw [ih]; rfl
theorem FN {H:Hp} {s:AV} {l:List Ln} (h:Row H 2 s (cLs l)):Snap H s (li l):=by
 refine Row.snap (elems:=l.map eu) (by rw [← Fx]; exact h) (fun y hy=>?_) (by omega) (fun y hy c hx=>?_)
 ·obtain ⟨n,_,rfl⟩:=bP.1 hy; rfl
 ·obtain ⟨n,_,rfl⟩:=bP.1 hy;simp only [eu,AV.cells,dw,List.not_mem_nil,or_false] at hx;rcases hx with rfl | rfl <;> exact bE _
theorem xw {M:List Ln} (hM:RedU M):(bV M).Nodup:=by
 unfold bV;refine List.pairwise_map.2 (List.Pairwise.imp_of_mem (fun {x y} hx hy hne e=>?_) hM.nodup);have:=de (hM.ne y hy);rw [← e] at this;exact hne (hM.own x hx y hy this).symm
def vsS (M:List Ln) (y:Ln) (seen:List Nat):List AV:=(List.range M.length).map fun i=>eu (if i ∈ seen then iJ y (M.getD i default) else M.getD i default)
theorem Fb {M:List Ln} {y:Ln}:vsS M y []=M.map eu:=by
 refine List.ext_getElem (by simp [vsS]) fun i h1 h2=>?_;have h2:i < M.length:=by simpa using h2
 simp [vsS,List.getD,h2]
theorem Ar {M:List Ln} {y:Ln} {seen:List Nat} {i:Nat} (hi:i < M.length) (h:i ∉ seen):(vsS M y seen).getD i .undef=eu (M.getD i default):=by
 simp [vsS,List.getD,hi,h]
theorem Ba {M:List Ln} {y:Ln} {seen:List Nat} {i:Nat}:(vsS M y seen).set i (eu (iJ y (M.getD i default)))=vsS M y (seen ++ [i]):=by
 refine List.ext_getElem (by simp [vsS]) fun j h1 h2=>?_;have h2:j < M.length:=by simpa [vsS] using h2
 rw [List.getElem_set];by_cases e:i=j
 ·subst e; simp [vsS]
 ·have e':¬ j=i:=fun h=>e h.symm;simp [vsS,e,e']
theorem DL {M:List Ln} {y:Ln} {seen:List Nat} {i:Nat} (hi:i < M.length) (hs:i ∉ seen) (h:ld y.1 ∉ (M.getD i default).1):vsS M y (seen ++ [i])=vsS M y seen:=by
 rw [← Ba,show iJ y (M.getD i default)=M.getD i default by unfold iJ; rw [if_neg h],← Ar (y:=y) hi hs];refine List.ext_getElem (by simp) fun j h1 h2=>?_;rw [List.getElem_set];split
 ·rename_i e; subst e; simp [List.getD,h2]
 ·rfl
theorem FK {M:List Ln} {y:Ln} {seen:List Nat} (h:∀ i,i < M.length→i ∈ seen):vsS M y seen=(M.map (iJ y)).map eu:=by
 refine List.ext_getElem (by simp [vsS]) fun i h1 h2=>?_;have h2:i < M.length:=by simpa using h2
 simp [vsS,List.getD,h2,h i h2]
theorem zw {R:List (List Int)} {c k:Nat} (hR:∀ r ∈ R,bw r) (hv:∀ r ∈ R,∀ z ∈ r,0 ≤ z∧z < (c:Int)) (hk:k ≤ R.length):∀ l ∈ (stE R k).1,BL c R.length l:=fun l hl=>by
 have hs:=fZ hR hk;refine ⟨oH (fun r hr=>hR r (jZ hr)) (fun r hr=>hv r (jZ hr)) (hs.inS l hl),fun j hj=>?_⟩;have:=(hs.ok l hl).2 j hj;omega
theorem wo {R:List (List Int)} (hR:∀ r ∈ R,bw r) {k:Nat} (hk:k ≤ R.length):(stE R k).1.length ≤ k∧(stE R k).2.length ≤ k:=by
 have:=(fZ hR hk).len;omega
attribute [local irreducible] aM am bm be aX a6 aG aZ bf bI Go.Abs.Fn bc Go.Abs.Pure aB aQ Yl
theorem DE (l:List Int) (hl:l.length ≤ 1000000000):fX Tryz.prog 83 [aL l] (aL l):=by
 refine fX.of_c2 follows Kd (br rfl) ?_;simp only [b83,aU]
 repeat' (first|refine zW ?_|apply a_n|refine zO ?_|refine vZ ?_|fail)
 refine yZ (k:=l.length) (by ((try simp only [da,ZA,reduceEqDiff,↓reduceIte,reduceAdd,reduceLeDiff]); (try with_reducible rfl)); exact zx) (fun h=>?_) (fun h=>?_) (fun h=>?_)
 ((all_goals (try have zz:=and_self)); (repeat' (first|refine zW ?_|apply a_n|apply a_r|refine zO ?_|refine vZ ?_|refine b0Z ?_|refine a0Z ?_|refine cTZ ?_|refine cFZ ?_|refine ak rfl ?_|refine r1Z ?_|fail)); (all_goals (try clear zz)))
 ·exact uO ai (by omega) rfl
 ·exact BK h
 ·exact uO ai (by omega) rfl
end Go.Proofs.YtlodfaaceehfmaaGreat
namespace Go.Proofs.YtlodfaaceehfmaaGreat
open Go Go.Abs
theorem I0 {l:List Int} (h:l ≠ []):eG 1 (aL l) (.int .i64 0)=some (.iptr [.int .i64 (ld l)] 0):=by
 have:=ixV (l:=l) (k:=0) (nB.2 h);exact this
theorem yc {M:List Ln} {y:Ln} (hM:RedU M) (hy:cq y) (h0:y.1 ≠ []) (hn:∀ l ∈ M,ld l.1 ∉ y.1):bV (M.map (iJ y))=bV M:=by
 unfold bV;rw [List.map_map];exact pW fun l hl=>(sQ hM hy h0 hn hl).2.2.2
theorem Eg {M:List Ln} (hM:RedU M) {l:Ln} {v:Int} (hl:l ∈ M) (e:ld l.1=v):(M.find? fun l=>decide (ld l.1=v))=some l:=by
 cases h:M.find? fun l=>decide (ld l.1=v) with
 | none =>
  have:=List.find?_eq_none.1 h l hl;exact absurd (bt e) this
 | some m =>
  have h1:=wr (List.find?_some (p:=fun l:Ln=>decide (ld l.1=v)) h);have h2:=List.mem_of_find?_eq_some h;have:=de (hM.ne m h2);rw [h1,← e] at this;rw [hM.own l hl m h2 this]
theorem zB {M:List Ln} {v:Int} (h:v ∉ bV M):(M.find? fun l=>decide (ld l.1=v))=none :=
 List.find?_eq_none.2 fun l hl hd=>h (mh.2 ⟨l,hl,wr hd⟩)
theorem yM {M:List Ln} {c:Nat}:(kj M c).length ≤ c:=by
 induction c with
 | zero=>simp [kj]
 | succ c ih =>
  rw [mf,dr];have:(M.find? fun l=>decide (ld l.1=(c:Int))).toList.length ≤ 1:=by cases M.find? fun l=>decide (ld l.1=(c:Int)) <;> simp
  omega
theorem A5 {H:Hp} {s:AV} {l:List (List Int)} (h:Row H 1 s (l.map aL)):Snap H s (cI l):=by
 rw [FI];exact h.snapL' (fun _=>rfl) (fun x _=>bE x)
theorem fS {c:Int} {R:List (List Int)}:eJ c R=.agg [.int .i64 c,cI R]:=rfl
attribute [local irreducible] aM am bm be aX a6 aG aZ bf bI Go.Abs.Fn bc Go.Abs.Pure aB aQ Yl
set_option maxHeartbeats 2000000 in
theorem uA (c:Nat) (R:List (List Int)) (hc:c ≤ 4096) (hl:R.length ≤ 4096) (hR:∀ r ∈ R,bw r) (hv:∀ r ∈ R,∀ z ∈ r,0 ≤ z∧z < (c:Int)):Pure Tryz.prog 56 [eJ c R] (.tup [li (gY R c),cI (stE R R.length).2]):=by
 refine Pure.of_c2 follows Kq (br rfl) ?_;simp only [b56,aU];rw [fS];refine dt ?_
 repeat' (first|apply a_n|refine zO ?_|refine vY ?_|refine bxY ?_|fail)
 refine dt ?_
 repeat' (first|apply a_n|refine zO ?_|fail)
 refine Aw ?_;refine qQ (cs:=[.nilm]) rfl rfl rfl ?_
 repeat' (first|apply a_n|refine zO ?_|refine stY ?_|fail)
 refine dt ?_
 repeat' (first|apply a_n|refine zO ?_|refine vY ?_|fail)
 refine dt ?_
 repeat' (first|apply a_n|refine zO ?_|refine vY ?_|fail)
 refine cr (fun T H nx=>T 1=.ptr 0 2 0∧T 4=.ptr 2 1 0∧3 ≤ nx∧H 0=some [.int .i64 c,cI R]∧H 2=some [.mp 1]∧LM H 1 (stE R R.length).1∧∃ dv,T 6=dv∧Row H 1 dv ((stE R R.length).2.map aL)∧∀ b,dF dv=some b→2 < b∧b < nx) ?_ ?_
 ·have zz:=@sa; repeat' (first|refine zW ?_|apply a_n|refine zO ?_|refine vY ?_|fail)
  refine bC (X:=AV × Nat) (fun x=>[(1,.ptr 0 2 0),(4,.ptr 2 1 0),(5,.func 81 [.ptr 2 1 0]),(6,x.1),(19,cI R),(20,.int .i64 R.length),(21,.int .i64 x.2)]) (fun x H nx=>x.2 ≤ R.length∧3 ≤ nx∧H 0=some [.int .i64 c,cI R]∧H 2=some [.mp 1]∧LM H 1 (stE R x.2).1∧Row H 1 x.1 ((stE R x.2).2.map aL)∧∀ b,dF x.1=some b→2 < b∧b < nx) (fun x=>R.length - x.2) (.esl,0) ⟨cf _,aP _,rfl,rfl,rfl,Row.nil,fun b h=>(by cases h)⟩ (by (iterate 7 refine And.intro rfl ?_); trivial) ?_;rintro ⟨dv,k⟩ H nx ⟨h1,h2,h3,h4,h5,h6,h7⟩;dsimp only at h1 h2 h3 h4 h5 h6 h7 ⊢;by_cases hk:k < R.length
  rotate_left
  ·obtain rfl:k=R.length:=by omega
   repeat' (first|refine zW ?_|apply a_n|apply a_x|refine zO ?_|refine vY ?_|(refine zGY ?_ ?_ <;> (intro _hg; try (exfalso; omega)))|fail)
   exact ⟨rfl,rfl,h2,h3,h4,h5,dv,rfl,h6,h7⟩
  have ix:=Ji hk;have hrow:=hR _ (aE hk);have hrv:=hv _ (aE hk);have hst:=fZ hR (i:=k) (by omega);have hbl:=zw hR hv (k:=k) (by omega);have hsl:=wo hR (k:=k) (by omega);have hss:stE R (k + 1)=if (eP (stE R k).1 (R.getD k default,[(k:Int)])).1=[] then ((stE R k).1,(stE R k).2 ++ [(eP (stE R k).1 (R.getD k default,[(k:Int)])).2]) else (kE (stE R k).1 (eP (stE R k).1 (R.getD k default,[(k:Int)])),(stE R k).2):=rfl
  generalize R.getD k default=r at *;generalize stE R k=MD at *;obtain ⟨M,D⟩:=MD;dsimp only at *;have hrl:=oY hrow hrv;have hcl:=DE r (by omega);clear zz;have zz:=@ix; repeat' (first|refine zW ?_|apply a_n|refine zO ?_|refine vY ?_|(refine zGY ?_ ?_ <;> (intro _hg; try (exfalso; omega)))|fail)
  refine wx ev0 ev0 hcl (ar (bE _ _) ac) ?_;clear zz;have zz:=@ix; repeat' (first|apply a_n|refine zO ?_|refine vY ?_|refine blY ?_|fail)
  have hM:=hst.red;have hax:cq (r,[(k:Int)]):=⟨hrow,List.pairwise_singleton _ _⟩
  have hbx:BL c R.length (r,[(k:Int)]):=⟨hrv,fun j hj=>by rw [dL.1 hj]; omega⟩
  refine bn ev0 ev0 (Et M c R.length hc hl hM hbl (r,[(k:Int)]) hax hbx (Fz.one ai) (tg (ar (bE _ _) (ar (th (n:=1) (len:=1) (l:=[(k:Int)]) oS rfl rfl) ac))) (m:=1) (lb:=2) (by omega) (by omega) (by omega) (by rw [dj (by omega),ae (by omega)]; exact h4) (by unfold LM; rw [dj (by omega),ae (by omega)]; exact h5)) ?_;rintro _ H1 nx1 ⟨rfl,g1,g2⟩;have hay:cq (eP M (r,[(k:Int)])):=ig (fun l hl=>hM.asc l hl) hax;have hby:BL c R.length (eP M (r,[(k:Int)])):=zJ (fun l hl=>⟨hM.asc l hl,hbl l hl⟩) hax hbx;have hno:∀ l ∈ M,ld l.1 ∉ (eP M (r,[(k:Int)])).1:=fun l hl=>ml hM hax hl;generalize eP M (r,[(k:Int)])=y at *;have lo:∀ b,b < nx→H1 b=H b:=fun b hb=>(g1 b (by omega)).trans (by rw [dj (by omega),ae (by omega)]);have e1:eu y=.agg [aL y.1,aL y.2]:=rfl;rw [e1];by_cases h0:y.1=[]
  ·rw [if_pos h0] at hss;have z:decide ((y.1.length:Int)=0)=true:=by rw [h0]; rfl
   clear zz;have zz:=aI @dX @z; repeat' (first|refine zW ?_|apply a_n|refine zO ?_|refine vY ?_|refine alY ?_|refine stY ?_|refine blY ?_|refine cTY ?_|fail)
   refine iq rfl ev0 (h6.same fun b hb=>?_) ev0 dp rfl rfl jt (by rw [bO]; omega) (by rw [bO]; omega) ?_
   ·have:=h7 b hb;rw [ae (by omega),ae (by omega),ae (by omega)]; exact lo b (by omega)
   rintro s2 H2 nx2 hr2 i1 i2 i3 i4;have lo2:∀ b,b < nx→dF dv ≠ some b→H2 b=H b:=fun b hb hn=>(i3 b (by omega) hn).trans (by rw [ae (by omega),ae (by omega),ae (by omega)]; exact lo b hb);have hd:∀ b,b ≤ 2→dF dv ≠ some b:=fun b hb e=>by have:=h7 b e; omega
   repeat' (first|apply a_n|apply a_x|refine zO ?_|refine vY ?_|fail)
   refine ⟨(s2,k + 1),by dsimp only; omega,⟨by dsimp only; omega,by omega,(lo2 0 (by omega) (hd 0 (by omega))).trans h3,(lo2 2 (by omega) (hd 2 (by omega))).trans h4,?_,?_,fun b hb=>?_⟩,ag0⟩
   ·dsimp only;rw [hss]; exact (lo2 1 (by omega) (hd 1 (by omega))).trans h5
   ·dsimp only;rw [hss,ed]; exact hr2
   ·rcases i4 b hb with h | h
    ·have:=h7 b h; omega
    ·omega
  rw [if_neg h0] at hss;have z:decide ((y.1.length:Int)=0)=false:=bj (by have:=nB.2 h0; omega);clear zz;have zz:=aI @dX @z; repeat' (first|refine zW ?_|apply a_n|refine zO ?_|refine vY ?_|refine alY ?_|refine stY ?_|refine cFY ?_|fail)
  have hd:∀ b,b ≤ 2→dF dv ≠ some b:=fun b hb e=>by have:=h7 b e; omega
  have q0:aq (aq H1 nx1 [AV.esl,AV.esl]) nx1 (bK [AV.esl,AV.esl] 0 [aL y.1,aL y.2]) 0=some [.int .i64 c,cI R]:=by rw [ae (by omega),ae (by omega)]; exact (lo 0 (by omega)).trans h3
  have q2:aq (aq H1 nx1 [AV.esl,AV.esl]) nx1 (bK [AV.esl,AV.esl] 0 [aL y.1,aL y.2]) 2=some [.mp 1]:=by rw [ae (by omega),ae (by omega)]; exact (lo 2 (by omega)).trans h4
  have q1:LM (aq (aq H1 nx1 [AV.esl,AV.esl]) nx1 (bK [AV.esl,AV.esl] 0 [aL y.1,aL y.2])) 1 M:=by unfold LM; rw [ae (by omega),ae (by omega)]; exact (lo 1 (by omega)).trans h5
  have qy:aq (aq H1 nx1 [AV.esl,AV.esl]) nx1 (bK [AV.esl,AV.esl] 0 [aL y.1,aL y.2]) nx1=some [aL y.1,aL y.2]:=by rw [ai]; rfl
  have qd:Row (aq (aq H1 nx1 [AV.esl,AV.esl]) nx1 (bK [AV.esl,AV.esl] 0 [aL y.1,aL y.2])) 1 dv (D.map aL):=h6.same fun b hb=>by
   have:=h7 b hb;rw [ae (by omega),ae (by omega)]; exact lo b (by omega)
  generalize aq (aq H1 nx1 [AV.esl,AV.esl]) nx1 (bK [AV.esl,AV.esl] 0 [aL y.1,aL y.2])=H2 at *;clear zz;clear lo g1;have zz:=@q2; repeat' (first|apply a_n|refine zO ?_|refine vY ?_|fail)
  refine G6 ev0 q1 ?_
  repeat' (first|refine zW ?_|apply a_n|refine zO ?_|fail)
  have hkl:(bV M).length=M.length:=by unfold bV; rw [bO]
  have hkn:=xw hM;have ix0:=I0 h0;obtain ⟨yl1,yl2⟩:=hby.len hay;refine bC (X:=List Nat) (fun x=>[(1,.ptr 0 2 0),(4,.ptr 2 1 0),(5,.func 81 [.ptr 2 1 0]),(6,dv),(9,.ptr nx1 2 0),(19,cI R),(20,.int .i64 R.length),(21,.int .i64 k),(43,.itr (nx1 + 1))]) (fun seen H nx'=>H (nx1 + 1)=some [.oiter 1 ((bV M).map (AV.int .i64)).length seen]∧nx1 + 2 ≤ nx'∧seen.Nodup∧(∀ i ∈ seen,i < M.length)∧H 0=some [.int .i64 c,cI R]∧H 2=some [.mp 1]∧H nx1=some [aL y.1,aL y.2]∧H 1=some [.omap ((bV M).map (AV.int .i64)) (vsS M y seen)]∧Row H 1 dv (D.map aL)) (fun seen=>M.length - seen.length) [] ⟨ai,aP _,List.nodup_nil,fun i h=>(by cases h),(ae (by omega)).trans q0,(ae (by omega)).trans q2,(ae (by omega)).trans qy,by rw [Fb]; exact (ae (by omega)).trans q1,qd.same fun b hb=>by have:=h7 b hb; rw [ae (by omega)]⟩ (by (iterate 9 refine And.intro rfl ?_); trivial) ?_;clear zz;clear q0 q2 q1 qy qd;rintro seen H3 nx3 ⟨r1,r2,r3,r4,q0,q2,qy,q1,qd⟩
  have hsl:seen.length ≤ M.length:=by
   have:=xy r3 (l₂:=List.range M.length) fun i hi=>ew.2 (r4 i hi);simpa using this
  repeat' (first|refine zW ?_|apply a_n|refine zO ?_|fail)
  refine Hx ev0 r1 q1 rfl (fun i hi hns=>?_) (fun hall=>?_)
  ·have hi:i < M.length:=by rw [bO,hkl] at hi; exact hi
   have ek:((bV M).map (AV.int .i64)).getD i .undef=.int .i64 (ld (M.getD i default).1):=by
    unfold bV; simp [List.getD,hi]
   have evv:(vsS M y seen).getD i .undef=.agg [aL (M.getD i default).1,aL (M.getD i default).2]:=Ar hi hns
   have hidx:(bV M).idxOf (ld (M.getD i default).1)=i:=by
    have h5:i < (bV M).length:=by rw [hkl]; exact hi
    have h6:(bV M)[i]=ld (M.getD i default).1:=by
     have:(bV M)[i]=ld M[i].1:=List.getElem_map ..;rw [this]; simp [List.getD,hi]
    have h7:=pN.2 (show ld (M.getD i default).1 ∈ bV M by rw [← h6]; exact mM h5);have h8:(bV M)[(bV M).idxOf (ld (M.getD i default).1)]=(bV M)[i]:=by rw [List.getElem_idxOf h7,h6]
    exact (List.getElem_inj hkn).1 h8
   have hkm:ld (M.getD i default).1 ∈ bV M:=mh.2 ⟨_,aE hi,rfl⟩;have hla:=hM.asc _ (aE hi);have hlb:=hbl _ (aE hi);obtain ⟨ll1,ll2⟩:=hlb.len hla;have hset:=Ba (M:=M) (y:=y) (seen:=seen) (i:=i);have hsame:=DL (M:=M) (y:=y) (seen:=seen) (i:=i) hi hns;have r3':(seen ++ [i]).Nodup:=xa.2 ⟨r3,by simp,fun x hx z hz e=>by rw [e,dL.1 hz] at hx; exact hns hx⟩
   have r4':∀ x ∈ seen ++ [i],x < M.length:=fun x hx=>by
    rcases fp.1 hx with q | q
    ·exact r4 x q
    ·rw [dL.1 q]; exact hi
   have hsl2:(seen ++ [i]).length ≤ M.length:=by
    have:=xy r3' (l₂:=List.range M.length) fun i hi=>ew.2 (r4' i hi);simpa using this
   rw [dr,List.length_singleton] at hsl2;generalize M.getD i default=l at *;have hhas:=HF l.1 (ld y.1) (by omega) hla.1;have zz:=aI @ek @evv; repeat' (first|refine zW ?_|apply a_n|refine zO ?_|refine vY ?_|refine cTY ?_|fail)
   refine G5 (i:=i) ev0 ai (by rw [ae (by omega)]; exact q1) rfl (by simp) (by rw [bO,hkl]; exact hi) ?_;clear zz;have zz:=aI @ek @evv; repeat' (first|refine zW ?_|apply a_n|refine zO ?_|refine vY ?_|refine alY ?_|refine stY ?_|fail)
   have w0:aq (aq (aq H3 (nx1 + 1) [AV.oiter 1 ((bV M).map (AV.int .i64)).length (seen ++ [i])]) nx3 [AV.esl,AV.esl]) nx3 (bK [AV.esl,AV.esl] 0 [aL l.1,aL l.2]) 0=some [.int .i64 c,cI R]:=by rw [ae (by omega),ae (by omega),ae (by omega)]; exact q0
   have w2:aq (aq (aq H3 (nx1 + 1) [AV.oiter 1 ((bV M).map (AV.int .i64)).length (seen ++ [i])]) nx3 [AV.esl,AV.esl]) nx3 (bK [AV.esl,AV.esl] 0 [aL l.1,aL l.2]) 2=some [.mp 1]:=by rw [ae (by omega),ae (by omega),ae (by omega)]; exact q2
   have w1:aq (aq (aq H3 (nx1 + 1) [AV.oiter 1 ((bV M).map (AV.int .i64)).length (seen ++ [i])]) nx3 [AV.esl,AV.esl]) nx3 (bK [AV.esl,AV.esl] 0 [aL l.1,aL l.2]) 1=some [.omap ((bV M).map (AV.int .i64)) (vsS M y seen)]:=by rw [ae (by omega),ae (by omega),ae (by omega)]; exact q1
   have wy:aq (aq (aq H3 (nx1 + 1) [AV.oiter 1 ((bV M).map (AV.int .i64)).length (seen ++ [i])]) nx3 [AV.esl,AV.esl]) nx3 (bK [AV.esl,AV.esl] 0 [aL l.1,aL l.2]) nx1=some [aL y.1,aL y.2]:=by rw [ae (by omega),ae (by omega),ae (by omega)]; exact qy
   have wl:aq (aq (aq H3 (nx1 + 1) [AV.oiter 1 ((bV M).map (AV.int .i64)).length (seen ++ [i])]) nx3 [AV.esl,AV.esl]) nx3 (bK [AV.esl,AV.esl] 0 [aL l.1,aL l.2]) nx3=some [aL l.1,aL l.2]:=by rw [ai]; rfl
   have wi:aq (aq (aq H3 (nx1 + 1) [AV.oiter 1 ((bV M).map (AV.int .i64)).length (seen ++ [i])]) nx3 [AV.esl,AV.esl]) nx3 (bK [AV.esl,AV.esl] 0 [aL l.1,aL l.2]) (nx1 + 1)=some [.oiter 1 ((bV M).map (AV.int .i64)).length (seen ++ [i])]:=by rw [ae (by omega),ae (by omega),ai]
   have wd:Row (aq (aq (aq H3 (nx1 + 1) [AV.oiter 1 ((bV M).map (AV.int .i64)).length (seen ++ [i])]) nx3 [AV.esl,AV.esl]) nx3 (bK [AV.esl,AV.esl] 0 [aL l.1,aL l.2])) 1 dv (D.map aL):=qd.same fun b hb=>by
    have:=h7 b hb;rw [ae (by omega),ae (by omega),ae (by omega)]
   generalize aq (aq (aq H3 (nx1 + 1) [AV.oiter 1 ((bV M).map (AV.int .i64)).length (seen ++ [i])]) nx3 [AV.esl,AV.esl]) nx3 (bK [AV.esl,AV.esl] 0 [aL l.1,aL l.2])=H4 at *;clear zz;clear q0 q2 q1 qy qd;by_cases hin:ld y.1 ∈ l.1
   ·rw [bt hin] at hhas;have hs1:=yo l.1 y.1 (by omega) (by omega);have hs2:=yo l.2 y.2 (by omega) (by omega);have hcl:eu (iJ y l)=.agg [aL (co l.1 y.1),aL (co l.2 y.2)]:=by unfold iJ; rw [if_pos hin]; rfl
    rw [hcl] at hset;clear hcl;generalize co l.1 y.1=s1 at *;generalize co l.2 y.2=s2 at *;have zz:=aI @wy (aI @wl @ix0); repeat' (first|refine zM ?_|apply a_n|refine zO ?_|refine vY ?_|refine cY ?_ (hp:=hhas) (hs:=by (first | refine af ?_ rfl | apply ag); (repeat' (first | exact ac | apply an | apply ah | exact bE _)); first | done | fail)|refine cTY ?_|fail)
    refine zZ 2 nx3 nx1 w2 wl wy (by omega) (by omega) (by omega) fun S hS1 hS2 hS3 hsub=>?_;clear zz;have zz:=aI @hS1 (aI @hS2 @hS3); repeat' (first|apply a_n|refine zO ?_|refine nvY ?_|fail)
    simp only [dR,List.map_nil,List.getD_cons_succ,List.getD_cons_zero];refine iu ?_
    repeat' (first|apply a_n|refine zO ?_|refine cY ?_ (hp:=by first | exact hs1 | exact hs2) (hs:=by (first | refine af ?_ rfl | apply ag); (repeat' (first | exact ac | apply an | apply ah | exact bE _)); first | done | fail)|fail)
    refine ⟨hsub _ w2 wl wy,?_⟩;refine iu ?_
    repeat' (first|apply a_n|refine zO ?_|refine cY ?_ (hp:=by first | exact hs1 | exact hs2) (hs:=by (first | refine af ?_ rfl | apply ag); (repeat' (first | exact ac | apply an | apply ah | exact bE _)); first | done | fail)|fail)
    refine ⟨hsub _ w2 wl wy,?_⟩
    repeat' (first|apply a_n|refine zO ?_|refine nvY ?_|apply kq|fail)
    have hmf:=nq (ld l.1) (bV M);rw [if_pos hkm,hidx] at hmf;refine u9 ev0 w1 ev0 ev0 rfl hmf ?_
    repeat' (first|apply a_n|refine zO ?_|fail)
    refine ⟨seen ++ [i],by rw [dr,List.length_singleton]; omega,⟨(ae (by omega)).trans wi,by omega,r3',r4',(ae (by omega)).trans w0,(ae (by omega)).trans w2,(ae (by omega)).trans wy,?_,wd.same fun b hb=>by have:=h7 b hb; rw [ae (by omega)]⟩,ag0⟩;rw [ai,← hset]; rfl
   ·rw [bj hin] at hhas;have zz:=aI @wy (aI @wl @ix0); repeat' (first|refine zM ?_|apply a_n|refine zO ?_|refine vY ?_|refine cY ?_ (hp:=hhas) (hs:=by (first | refine af ?_ rfl | apply ag); (repeat' (first | exact ac | apply an | apply ah | exact bE _)); first | done | fail)|refine cFY ?_|fail)
    exact ⟨seen ++ [i],by rw [dr,List.length_singleton]; omega,⟨wi,by omega,r3',r4',w0,w2,wy,by rw [hsame hin]; exact w1,wd⟩,ag0⟩
  ·have hall:∀ i,i < M.length→i ∈ seen:=fun i hi=>hall i (by rw [bO,hkl]; exact hi) (by rw [bO,hkl]; exact hi);rw [FK hall,← yc hM hay h0 hno] at q1
   have hkk:ld y.1 ∉ bV (M.map (iJ y)):=by
    rw [yc hM hay h0 hno,mh];rintro ⟨l,hl,e⟩;exact hno l hl (by rw [e]; exact de h0)
   have zz:=aI @q2 (aI @qy @ix0); repeat' (first|refine zW ?_|apply a_n|apply a_x|refine zO ?_|refine vY ?_|refine cFY ?_|fail)
   refine rp 2 nx1 q2 qy (by omega) fun S hS1 hS2 hsub=>?_;clear zz;have zz:=aI @hS1 (aI @hS2 @ix0); repeat' (first|apply a_n|refine zO ?_|refine nvY ?_|apply kq|fail)
   simp only [dR,List.map_nil,List.getD_cons_succ,List.getD_cons_zero]
   skip
   have hmf:=nq (ld y.1) (bV (M.map (iJ y)));rw [if_neg hkk] at hmf;refine u9 ev0 q1 ev0 ev0 rfl hmf ?_
   repeat' (first|apply a_n|refine zO ?_|refine vY ?_|fail)
   refine ⟨(dv,k + 1),by dsimp only; omega,⟨by dsimp only; omega,by omega,(ae (by omega)).trans q0,(ae (by omega)).trans q2,?_,?_,fun b hb=>by have:=h7 b hb; omega⟩,ag0⟩
   ·dsimp only;rw [hss];unfold LM;rw [ai];unfold kE bV;simp [cw,ft,eu]
   ·dsimp only;rw [hss];exact qd.same fun b hb=>by have:=h7 b hb; rw [ae (by omega)]
 rintro T H nx ⟨t1,t4,h2,h3,h4,h5,dv,t6,h6,h7⟩;have hst:=fZ hR (aP R.length);have hbl:=zw hR hv (aP R.length);have hsl:=wo hR (aP R.length);unfold gY;generalize stE R R.length=MD at *;obtain ⟨M,D⟩:=MD;dsimp only at *;have hM:=hst.red;have zz:=aI @t1 (aI @t4 (aI @t6 (aI @h3 @h4))); repeat' (first|refine zW ?_|apply a_n|refine zO ?_|refine vY ?_|fail)
 refine bC (X:=AV × Nat) (fun x=>[(4,.ptr 2 1 0),(6,dv),(12,x.1),(77,.int .i64 c),(78,.int .i64 x.2)]) (fun x H' nx'=>x.2 ≤ c∧nx ≤ nx'∧H' 2=some [.mp 1]∧LM H' 1 M∧Row H' 1 dv (D.map aL)∧Row H' 2 x.1 (cLs (kj M x.2))∧∀ b,dF x.1=some b→nx ≤ b∧b < nx') (fun x=>c - x.2) (.esl,0) ⟨cf _,aP _,h4,h5,h6,Row.nil,fun b h=>(by cases h)⟩ (have zz:=aI @t4 @t6; agZ) ?_;clear zz;clear h3 h4 h5 h6;rintro ⟨ov,k⟩ H' nx' ⟨g1,g2,g3,g4,g5,g6,g7⟩;dsimp only at g1 g2 g3 g4 g5 g6 g7 ⊢;by_cases hk:k < c
 rotate_left
 ·obtain rfl:k=c:=by omega
  repeat' (first|refine zW ?_|apply a_n|apply a_x|refine zO ?_|refine vY ?_|(refine zGY ?_ ?_ <;> (intro _hg; try (exfalso; omega)))|refine ak rfl ?_|refine r2Y ?_|fail)
  exact cm (ar (FN g6) (ar (A5 g5) ac))
 have hos:=mf (M:=M) (c:=k);have hol:=yM (M:=M) (c:=k);have hmf:=nq (k:Int) (bV M);have zz:=@g3; repeat' (first|refine zW ?_|apply a_n|refine zO ?_|refine vY ?_|(refine zGY ?_ ?_ <;> (intro _hg; try (exfalso; omega)))|fail)
 by_cases hm:(k:Int) ∈ bV M
 rotate_left
 ·rw [if_neg hm] at hmf;refine nt ev0 g4 ev0 rfl hmf ?_;have hmg:Go.Abs.mget (.agg [.esl,.esl]) true none (M.map eu)=.tup [.agg [.esl,.esl],.bool false]:=rfl;rw [hmg]
  repeat' (first|refine zW ?_|apply a_n|refine zO ?_|refine vY ?_|refine alY ?_|refine stY ?_|refine cFY ?_|fail)
  rw [zB hm] at hos;have hos:kj M (k + 1)=kj M k:=by rw [hos]; simp
  refine ⟨(ov,k + 1),by dsimp only; omega,⟨by dsimp only; omega,by omega,by rw [ae (by omega),ae (by omega)]; exact g3,?_,g5.same fun b hb=>by have:=h7 b hb; rw [ae (by omega),ae (by omega)],?_,fun b hb=>by have:=g7 b hb; omega⟩,ag0⟩
  ·unfold LM; rw [ae (by omega),ae (by omega)]; exact g4
  ·dsimp only;rw [hos];exact g6.same fun b hb=>by have:=g7 b hb; rw [ae (by omega),ae (by omega)]
 obtain ⟨l,hl,hld,hgd⟩:=uu hm;rw [if_pos hm] at hmf;refine nt ev0 g4 ev0 rfl hmf ?_
 have hmg:Go.Abs.mget (.agg [.esl,.esl]) true (some ((bV M).idxOf (k:Int))) (M.map eu)=.tup [.agg [aL l.1,aL l.2],.bool true]:=by
  show AV.tup [(M.map eu).getD ((bV M).idxOf (k:Int)) .undef,.bool true]=_;rw [hgd]; rfl
 rw [hmg];rw [Eg hM hl hld] at hos;have hos:kj M (k + 1)=kj M k ++ [l]:=hos
 repeat' (first|refine zW ?_|apply a_n|refine zO ?_|refine vY ?_|refine alY ?_|refine stY ?_|refine blY ?_|refine cTY ?_|fail)
 refine iq rfl ev0 (g6.same fun b hb=>?_) ev0 uy rfl rfl (by omega) (by rw [Be]; omega) (by rw [Be]; omega) ?_
 ·have:=g7 b hb;rw [ae (by omega),ae (by omega),ae (by omega)]
 rintro s2 H2 nx2 hr2 i1 i2 i3 i4;have hdo:∀ b,b < nx→dF ov ≠ some b:=fun b hb e=>by have:=g7 b e; omega
 have lo2:∀ b,b < nx→H2 b=H' b:=fun b hb=>(i3 b (by omega) (hdo b hb)).trans (by rw [ae (by omega),ae (by omega),ae (by omega)])
 repeat' (first|apply a_n|refine zO ?_|refine vY ?_|fail)
 refine ⟨(s2,k + 1),by dsimp only; omega,⟨by dsimp only; omega,by omega,(lo2 2 (by omega)).trans g3,(lo2 1 (by omega)).trans g4,g5.same fun b hb=>by have:=h7 b hb; rw [lo2 b (by omega)],?_,fun b hb=>?_⟩,ag0⟩
 ·dsimp only;rw [hos,Ei]; exact hr2
 ·rcases i4 b hb with h | h
  ·have:=g7 b h; omega
  ·omega
end Go.Proofs.YtlodfaaceehfmaaGreat
namespace Go.Proofs.YtlodfaaceehfmaaGreat
open Go Go.Abs
theorem B2 {r:List Int} (h:∀ i,i + 1 < r.length→r.getD i default < r.getD (i + 1) default):bw r:=by
 have hchain:∀ b a,a < b→b < r.length→r.getD a default < r.getD b default:=fun b=>by
  induction b with
  | zero=>intro a ha; omega
  | succ b ih =>
   intro a ha hb;have q:=h b hb;rcases (by omega:a < b ∨ a=b) with h | rfl
   ·have:=ih a h (by omega); omega
   ·exact q
 refine mQ.2 fun i j hi hj hij=>?_;have:=hchain j i hij hj;simpa [List.getD,hi,hj] using this
theorem s6 {c:Int} {R:List (List Int)} (h:BI c R):∀ r ∈ R,bw r:=fun r hr=>B2 (h.2.2.2 r hr).2.2
theorem IK {l:List Ln} {k:Nat} (h:k < l.length):eG 2 (li l) (.int .i64 (k:Int))=some (.iptr [aL (l.getD k default).1,aL (l.getD k default).2] 0):=by
 unfold li;rw [o5,if_pos ⟨by omega,by omega⟩,cQ];rfl
theorem sP {l:List Ln}:d4 (li l)=some (.int .i64 l.length):=nC
theorem oZ {R:List (List Int)} {c:Nat}:(gY R c).length ≤ c:=yM
theorem r_4 {T:Tm} {H:Hp} {K:AV→Prop} {a b c d:RV} {x y z u:AV} (ha:rv T H a=some x) (hb:rv T H b=some y) (hc:rv T H c=some z) (hd:rv T H d=some u) (h:K (.tup [x,y,z,u])):bI T H K [a,b,c,d]:=by
 show yr T H [a,b,c,d] fun xs=>K (.tup xs);simp only [yr,ha,hb,hc,hd];exact h
attribute [local irreducible] aM am bm be aX a6 aG aZ bf bI Go.Abs.Fn bc Go.Abs.Pure aB aQ Yl
theorem zL (c:Nat) (R:List (List Int)) (hm:BI c R):Pure Tryz.prog 27 [eJ c R] (.tup [eJ c (r8 R c),.int .i64 0]):=by
 refine Pure.of_c2 follows JC (br rfl) ?_;simp only [b27,aU];have h1:=s7 c R hm;have z0:decide ((0:Int) ≠ 0)=false:=rfl;have hd:Dat (.agg [.int .i64 c,cI R]):=fB c R;have hec:=uA c R (by have:=hm.2.1; omega) hm.2.2.1 (s6 hm) (fun r hr z hz=>(hm.2.2.2 r hr).1 z hz);have hll:=oZ (R:=R) (c:=c);have hmc:=hm.2.1;rw [fS] at hec ⊢;unfold r8;generalize gY R c=L at *;have zz:=aI @z0 @sP; repeat' (first|refine zW ?_|apply a_n|refine zO ?_|refine vY ?_|refine cY ?_ (hp:=by first | exact h1 | exact hec)|refine alY ?_|refine bxY ?_|refine stY ?_|refine cFY ?_|fail)
 refine bC (X:=AV × Nat) (fun x=>[(2,.ptr 1 2 0),(5,.ptr 2 2 0),(24,li L),(25,.int .i64 L.length),(26,.int .i64 x.2)]) (fun x H nx=>x.2 ≤ L.length∧3 ≤ nx∧H 1=some [.int .i64 0,.esl]∧H 2=some [.int .i64 c,x.1]∧Row H 1 x.1 (((L.take x.2).map Prod.fst).map aL)∧∀ b,dF x.1=some b→2 < b∧b < nx) (fun x=>L.length - x.2) (.esl,0) ⟨cf _,aP _,rfl,rfl,Row.nil,fun b h=>(by cases h)⟩ (by (iterate 5 refine And.intro rfl ?_); trivial) ?_;rintro ⟨sv,k⟩ H nx ⟨g1,g2,g3,g4,g5,g6⟩;dsimp only at g1 g2 g3 g4 g5 g6 ⊢;by_cases hk:k < L.length
 rotate_left
 ·rw [iv (by omega)] at g5;obtain ⟨o1,o2⟩:=g5.one;clear zz;have zz:=aI @g3 (aI @g4 (aI @o1 @o2)); repeat' (first|refine zW ?_|apply a_n|apply a_x|refine zO ?_|refine vY ?_|refine stY ?_|(refine zGY ?_ ?_ <;> (intro _hg; try (exfalso; omega)))|refine ak rfl ?_|refine r2Y ?_|fail)
  refine mE (A5 (g5.same fun b hb=>?_)) rfl;have:=g6 b hb;rw [ae (by omega)]
 have ix:=IK hk;have hts:=dE hk;have hlt:(L.take k).length ≤ k:=by rw [iO]; omega
 generalize L.getD k default=l at *;clear zz;have zz:=aI @ix @g4; repeat' (first|refine zW ?_|apply a_n|refine zO ?_|refine vY ?_|refine alY ?_|refine stY ?_|refine blY ?_|(refine zGY ?_ ?_ <;> (intro _hg; try (exfalso; omega)))|fail)
 refine iq rfl ev0 (g5.same fun b hb=>?_) ev0 dp rfl rfl jt (by rw [bO,bO]; omega) (by rw [bO,bO]; omega) ?_
 ·have:=g6 b hb;rw [ae (by omega),ae (by omega),ae (by omega)]
 rintro s2 H2 nx2 hr2 i1 i2 i3 i4;have hdo:∀ b,b ≤ 2→dF sv ≠ some b:=fun b hb e=>by have:=g6 b e; omega
 have lo2:∀ b,b ≤ 2→H2 b=H b:=fun b hb=>(i3 b (by omega) (hdo b hb)).trans (by rw [ae (by omega),ae (by omega),ae (by omega)])
 have hn2:∀ b,dF s2=some b→2 < b∧b < nx2:=fun b hb=>by
  rcases i4 b hb with h | h
  ·have:=g6 b h; omega
  ·omega
 have k4:=(lo2 2 (by omega)).trans g4;obtain ⟨o1,o2⟩:=hr2.one;clear zz;have zz:=aI @k4 (aI @o1 @o2); repeat' (first|apply a_n|refine zO ?_|refine vY ?_|refine stY ?_|fail)
 refine ⟨(s2,k + 1),by dsimp only; omega,⟨by dsimp only; omega,by omega,by rw [ae (by omega)]; exact (lo2 1 (by omega)).trans g3,by rw [ai]; rfl,?_,hn2⟩,ag0⟩;dsimp only;rw [hts,ed,ed];exact hr2.same fun b hb=>by have:=hn2 b hb; rw [ae (by omega)]
theorem zS (c:Nat) (R:List (List Int)) (hm:BI c R):Pure Tryz.prog 10 [eJ c R] (.tup [.int .i64 (r8 R c).length,.int .i64 0]):=by
 refine Pure.of_c2 follows Kf (br rfl) ?_;simp only [b10,aU];have he:=zL c R hm;have hd:Dat (.agg [.int .i64 c,cI R]):=fB c R;rw [fS,fS] at he;rw [fS];generalize r8 R c=E at *;have zz:=@sa; repeat' (first|refine zW ?_|apply a_n|refine zO ?_|refine vY ?_|refine cY ?_ (hp:=he)|refine alY ?_|refine bxY ?_|refine stY ?_|refine ak rfl ?_|refine r2Y ?_|fail)
 exact cm (ar (.int _ _) (ar (.int _ _) ac))
def F6 (D:List (List Int)) (b:List Int):Option (List Int):=D.find? fun y=>i9 y b
def gP (L:List Ln) (b:List Int):List Int:=(L.filter fun l=>i9 l.2 b).map fun l=>ld l.1
def Aa (R:List (List Int)) (c:Nat) (b:List Int):List Int × List Int × Bool:=match F6 (stE R R.length).2 b with
 | some y=>([],y,false)
 | none=>(gP (gY R c) b,[],true)
theorem Cm {L:List Ln} {x:Ln} {b:List Int}:gP (L ++ [x]) b=gP L b ++ if i9 x.2 b=true then [ld x.1] else []:=by
 unfold gP;rw [Cc,ed]
 congr 1
 by_cases h:i9 x.2 b=true
 ·rw [if_pos h,D8 (by simpa using h)]; rfl
 ·rw [if_neg h,DF (by simpa using h)]; rfl
theorem B0 {D:List (List Int)} {p:List Int→Bool} {k:Nat} (h:∀ i,i < k→p (D.getD i default)=false) (hk:k < D.length) (hp:p (D.getD k default)=true):D.find? p=some (D.getD k default):=by
 induction D generalizing k with
 | nil=>simp at hk
 | cons y D ih =>
  match k with
  | 0 => have hp : p y = true := hp
         show List.find? p (y :: D)=some y;rw [List.find?_cons_of_pos hp]
  | k + 1 =>
   have h0:¬ p y=true:=by have:=h 0 (by omega); rw [show (y :: D).getD 0 default=y from rfl] at this; rw [this]; decide
   rw [List.find?_cons_of_neg h0];exact ih (k:=k) (fun i hi=>h (i + 1) (by omega)) (by simpa using hk) hp
theorem Fs (c:Nat) (R:List (List Int)) (b:List Int) (hm:BI c R) (hbr:∀ v ∈ b,0 ≤ v∧v < (R.length:Int)) (hba:bw b):Pure Tryz.prog 34 [eJ c R,aL b] (.tup [aL (Aa R c b).1,aL (Aa R c b).2.1,.bool (Aa R c b).2.2,.int .i64 0]):=by
 refine Pure.of_c2 follows JK (br rfl) ?_;simp only [b34,aU];have hmR:=s6 hm;have hmv:∀ r ∈ R,∀ z ∈ r,0 ≤ z∧z < (c:Int):=fun r hr z hz=>(hm.2.2.2 r hr).1 z hz;have hbl:=oY hba hbr;have h1:=s7 c R hm
 have h2:=tY b (R.length:Int) (by have:=hm.2.2.1; omega) hbr (fun i hi=>by
  have:=mQ.1 hba i (i + 1) (by omega) hi (by omega);simpa [List.getD,show i < b.length by omega,hi] using this)
 have z0:decide ((0:Int) ≠ 0)=false:=rfl;have hd:Dat (.agg [.int .i64 c,cI R]):=fB c R;have hec:=uA c R (by have:=hm.2.1; omega) hm.2.2.1 hmR hmv;have hll:=oZ (R:=R) (c:=c);have hmc:=hm.2.1;have hrl:=hm.2.2.1;have hsl:=wo hmR (aP R.length);have hok:=fZ hmR (aP R.length)
 have hel:∀ l ∈ gY R c,l.1 ≠ []∧l.2.length ≤ 4096:=fun l hl=>by
  have hl':=((pK hmR hmv).2.2 l).1 hl;refine ⟨hok.red.ne l hl',?_⟩;have:=((zw hmR hmv (aP R.length)) l hl').len (hok.red.asc l hl');omega
 have hdl:∀ y ∈ (stE R R.length).2,y.length ≤ 4096:=fun y hy=>by
  have h3:=hok.dep y hy;have h4:y.length ≤ R.length:=oY h3.1.2 h3.2.2;omega
 rw [fS] at hec ⊢;unfold Aa;generalize gY R c=L at *;generalize (stE R R.length).2=D at *;refine dt ?_
 repeat' (first|apply a_n|refine zO ?_|refine vY ?_|refine bxY ?_|fail)
 refine dt ?_;have zz:=aI @z0 (aI @sP @sa); repeat' (first|refine zW ?_|apply a_n|refine zO ?_|refine vY ?_|refine cY ?_ (hp:=by first | exact h1 | exact hec | exact h2) (hs:=by (first | refine af ?_ rfl | apply ag); (repeat' (first | exact ac | apply an | apply ah | exact hd | exact bE _)); first | done | fail)|refine cFY ?_|fail)
 refine bC (X:=Nat) (fun k=>[(1,aL b),(10,li L),(35,cI D),(36,.int .i64 D.length),(37,.int .i64 k)]) (fun k H nx=>k ≤ D.length∧∀ i,i < k→i9 (D.getD i default) b=false) (fun k=>D.length - k) 0 ⟨cf _,fun i h=>absurd h (by omega)⟩ (by (iterate 5 refine And.intro rfl ?_); trivial) ?_;rintro k H nx ⟨g1,g2⟩;by_cases hk:k < D.length
 ·have ix:=Ji hk;have hyl:=hdl _ (aE hk);have hod:=Gj (D.getD k default) b (by omega) (by omega);by_cases ho:i9 (D.getD k default) b=true
  ·have hsy:F6 D b=some (D.getD k default):=B0 (p:=fun y=>i9 y b) g2 hk ho;rw [hsy];rw [ho] at hod;generalize D.getD k default=y at *;clear zz;have zz:=@ix; repeat' (first|refine zW ?_|apply a_n|apply a_r|refine zO ?_|refine vY ?_|refine cY ?_ (hp:=hod) (hs:=by (first | refine af ?_ rfl | apply ag); (repeat' (first | exact ac | apply an | apply ah | exact bE _)); first | done | fail)|refine cTY ?_|(refine zGY ?_ ?_ <;> (intro _hg; try (exfalso; omega)))|refine ak rfl ?_|fail)
   refine r_4 rfl rfl rfl rfl ?_;exact cm (ar (.eslsl 1) (ar (bE y).snap (ar (.bool _) (ar (.int _ _) ac))))
  ·have ho:i9 (D.getD k default) b=false:=by simpa using ho
   have hg2:∀ i,i < k + 1→i9 (D.getD i default) b=false:=fun i hi=>by
    rcases (by omega:i < k ∨ i=k) with h | rfl
    ·exact g2 i h
    ·exact ho
   rw [ho] at hod;generalize D.getD k default=y at *;clear zz;have zz:=@ix; repeat' (first|refine zW ?_|apply a_n|refine zO ?_|refine vY ?_|refine cY ?_ (hp:=hod) (hs:=by (first | refine af ?_ rfl | apply ag); (repeat' (first | exact ac | apply an | apply ah | exact bE _)); first | done | fail)|refine cFY ?_|(refine zGY ?_ ?_ <;> (intro _hg; try (exfalso; omega)))|fail)
   exact ⟨k + 1,by omega,⟨by omega,hg2⟩,ag0⟩
 have hsy:F6 D b=none:=by
  refine List.find?_eq_none.2 fun y hy=>?_;obtain ⟨i,hi,e⟩:=jW hy;have:=g2 i (by omega);rw [show D.getD i default=y by simp [List.getD,hi,e]] at this;rw [this]; decide
 rw [hsy];clear zz;clear hsy g2;have zz:=@sP; repeat' (first|refine zW ?_|apply a_n|apply a_x|refine zO ?_|refine vY ?_|(refine zGY ?_ ?_ <;> (intro _hg; try (exfalso; omega)))|fail)
 refine bC (X:=AV × Nat) (fun x=>[(1,aL b),(14,x.1),(46,li L),(47,.int .i64 L.length),(48,.int .i64 x.2)]) (fun x H nx=>x.2 ≤ L.length∧Row H 1 x.1 ((gP (L.take x.2) b).map (AV.int .i64))∧∀ b,dF x.1=some b→b < nx) (fun x=>L.length - x.2) (.esl,0) ⟨cf _,Row.nil,fun b h=>(by cases h)⟩ (by (iterate 5 refine And.intro rfl ?_); trivial) ?_;rintro ⟨sv,k⟩ H nx ⟨g1,g2,g3⟩;dsimp only at g1 g2 g3 ⊢;by_cases hk:k < L.length
 rotate_left
 ·rw [iv (by omega)] at g2
  repeat' (first|refine zW ?_|apply a_n|apply a_x|refine zO ?_|refine vY ?_|(refine zGY ?_ ?_ <;> (intro _hg; try (exfalso; omega)))|refine ak rfl ?_|fail)
  refine r_4 rfl rfl rfl rfl ?_;exact cm (ar g2.snapI (ar (.eslsl 1) (ar (.bool _) (ar (.int _ _) ac))))
 have ix:=IK hk;have hts:=dE hk;obtain ⟨hn,hl2⟩:=hel _ (aE hk)
 have hxl:(gP (L.take k) b).length ≤ k:=by
  unfold gP;rw [bO];refine fM (List.length_filter_le _ _) ?_;rw [iO]; omega
 have hsx:=Cm (L:=L.take k) (x:=L.getD k default) (b:=b);rw [← hts] at hsx;generalize L.getD k default=l at *;have hod:=Gj l.2 b (by omega) (by omega);have ix0:=I0 hn;by_cases ho:i9 l.2 b=true
 ·rw [ho] at hod;rw [if_pos ho] at hsx;clear zz;have zz:=aI @ix @ix0; repeat' (first|refine zW ?_|apply a_n|refine zO ?_|refine vY ?_|refine cY ?_ (hp:=hod) (hs:=by (first | refine af ?_ rfl | apply ag); (repeat' (first | exact ac | apply an | apply ah | exact bE _)); first | done | fail)|refine alY ?_|refine stY ?_|refine blY ?_|refine cTY ?_|(refine zGY ?_ ?_ <;> (intro _hg; try (exfalso; omega)))|fail)
  refine iq rfl ev0 (g2.same fun b hb=>?_) ev0 dp rfl rfl jt (by rw [bO]; omega) (by rw [bO]; omega) ?_
  ·have:=g3 b hb;rw [ae (by omega),ae (by omega),ae (by omega)]
  rintro s2 H2 nx2 hr2 i1 i2 i3 i4
  repeat' (first|apply a_n|refine zO ?_|refine vY ?_|fail)
  refine ⟨(s2,k + 1),by dsimp only; omega,⟨by dsimp only; omega,?_,fun b hb=>?_⟩,ag0⟩
  ·dsimp only;rw [hsx,ed]; exact hr2
  ·rcases i4 b hb with h | h
   ·have:=g3 b h; omega
   ·omega
 ·have ho:i9 l.2 b=false:=by simpa using ho
  rw [ho] at hod;rw [ho,if_neg (by decide),jH] at hsx;clear zz;have zz:=aI @ix @ix0; repeat' (first|refine zW ?_|apply a_n|refine zO ?_|refine vY ?_|refine cY ?_ (hp:=hod) (hs:=by (first | refine af ?_ rfl | apply ag); (repeat' (first | exact ac | apply an | apply ah | exact bE _)); first | done | fail)|refine alY ?_|refine stY ?_|refine cFY ?_|(refine zGY ?_ ?_ <;> (intro _hg; try (exfalso; omega)))|fail)
  refine ⟨(sv,k + 1),by dsimp only; omega,⟨by dsimp only; omega,?_,fun b hb=>by have:=g3 b hb; omega⟩,ag0⟩;dsimp only;rw [hsx];exact g2.same fun b hb=>by have:=g3 b hb; rw [ae (by omega),ae (by omega)]
end Go.Proofs.YtlodfaaceehfmaaGreat
namespace Go.Proofs.YtlodfaaceehfmaaGreat
open Go Go.Abs
open Nat (reduceEqDiff reduceAdd reduceLeDiff)
theorem jh {c:List Spx} (h:aO c=0):∀ s ∈ c,Shn s:=fun s hs=>show _ ≤ _ by
 have:=(cV ((dq h).2.1 s hs)).2.1;omega
def ir (c:List Spx):Nat→Int
 | 0=>0
 | k + 1=>if (k + 1) % 2=1 then ir c k + ((fV c (k + 1)).length:Int) else ir c k - ((fV c (k + 1)).length:Int)
theorem vP {c:List Spx} (h:∀ k,(fV c k).length ≤ 3500):∀ k:Nat,-(3500 * (k:Int)) ≤ ir c k∧ir c k ≤ 3500 * (k:Int)
 | 0=>⟨by show -(3500 * ((0:Nat):Int)) ≤ (0:Int); omega,by show (0:Int) ≤ 3500 * ((0:Nat):Int); omega⟩
 | k + 1=>by
  have:=vP h k;have h2:=h (k + 1);unfold ir;split <;> omega
def lO (c:List Spx):Nat→Int × Int
 | 0=>(8,0)
 | k + 1=>(min (lO c k).1 ((c.getD k default).length:Int),max (lO c k).2 ((c.getD k default).length:Int))
theorem wc {c:List Spx} {m:Int} (h0:0 ≤ m) (h:∀ s ∈ c,(s.length:Int) ≤ m):∀ {k:Nat},k ≤ c.length→0 ≤ (lO c k).2∧(lO c k).2 ≤ m
 | 0,_=>⟨Int.le_refl _,h0⟩
 | k + 1,hk=>by
  have:=wc h0 h (k:=k) (by omega);have h2:=h _ (aE (l:=c) (i:=k) (by omega));unfold lO;dsimp only;omega
def iT (c:List Spx):Int:=(lO c c.length).2
def D3 (c:List Spx):Bool:=decide ((lO c c.length).2=0) || decide ((lO c c.length).1=(lO c c.length).2)
theorem Hl {c:List Spx} (hc:aO c=0) {k:Nat} (hk:8 < k):fV c k=[]:=by
 refine tI.2 fun s hs=>?_;obtain ⟨t,ht,h⟩:=rh.1 hs;obtain ⟨h1,h2⟩:=eb.1 h;have:=(cV ((dq hc).2.1 t ht)).2.1;have:=h1.length_le;omega
theorem xo {c:List Spx} {k:Nat}:aD c (k:Int)=if k=0 then [] else fV c k:=by
 unfold aD;by_cases h:k=0
 ·rw [if_pos (by omega),if_pos h]
 ·rw [if_neg (by omega),if_neg h,cQ]
theorem ez {c:List Spx} (hc:aO c=0) (hl:c.length ≤ 50) {d:Int}:(aD c d).length ≤ 3500:=by
 unfold aD;split
 ·simp
 ·exact kO hl fun s hs=>(cV ((dq hc).2.1 s hs)).2.1
theorem EZ {c:List Spx} (hc:aO c=0) {d:Int} (h:8 < d):aD c d=[]:=by
 unfold aD;rw [if_neg (by omega)];exact Hl hc (by omega)
theorem D1 {Y:List Spx}:dQ [] Y=List.replicate Y.length []:=by
 refine List.ext_getElem (by simp [dQ]) fun i h1 h2=>?_;simp [dQ,bF,iK]
theorem Cj {H:Hp} {b n:Nat} (h:H b=some (List.replicate n .esl)):Snap H (.msl b n 1 0 n) (cI (List.replicate n [])):=by
 refine Dd h (by simp) ⟨by simp,fun i x y hx hy=>?_⟩;obtain ⟨h1,rfl⟩:=bA.1 hx;obtain ⟨h2,rfl⟩:=bA.1 hy;simp only [List.getElem_map,List.getElem_replicate];exact .eslsl 1
attribute [local irreducible] aM am bm be aX a6 aG aZ bf bI Go.Abs.Fn bc Go.Abs.Pure aB aQ Yl
theorem wt (c:List Spx) (hc:aO c=0) (hl:c.length ≤ 50):Pure Tryz.prog 7 [dl c] (.tup [.int .i64 (ir c 8),.int .i64 0]):=by
 refine Pure.of_c2 follows is7 (br rfl) ?_;simp only [b7,aU];have hcc:=jD c (show _ ≤ _ by omega) (jh hc);rw [hc] at hcc;have z0:decide ((0:Int) ≠ 0)=false:=rfl;have hbd:=fun k:Nat=>vP (c:=c) (fun k=>kO (k:=k) hl fun s hs=>(cV ((dq hc).2.1 s hs)).2.1) k;have hll:=fun k=>kO (k:=k) hl fun s hs=>(cV ((dq hc).2.1 s hs)).2.1;have hf:=fun k (hk:1 ≤ k∧k ≤ 8)=>yJ c k hl (dq hc).2.1 hk;have zz:=aI @z0 (aI @au @ao); repeat' (first|refine zW ?_|apply a_n|refine zO ?_|refine vY ?_|refine cY ?_ (hp:=hcc) (hs:=by (first | refine af ?_ rfl | apply ag); (repeat' (first | exact ac | apply an | apply ah | exact aV _)); first | done | fail)|refine bxY ?_|refine cFY ?_|fail)
 refine bC (X:=Nat) (fun k=>[(1,.ptr 0 1 0),(5,.int .i64 (ir c k)),(6,.int .i64 (k + 1:Nat))]) (fun k H nx=>k ≤ 8∧H 0=some [aC c]) (fun k=>8 - k) 0 ⟨cf _,rfl⟩ (by (iterate 3 refine And.intro rfl ?_); trivial) ?_;rintro k H nx ⟨g1,g2⟩;by_cases hk:k < 8
 rotate_left
 ·obtain rfl:k=8:=by omega
  repeat' (first|refine zW ?_|apply a_n|apply a_x|refine zO ?_|refine vY ?_|(refine zGY ?_ ?_ <;> (intro _hg; try (exfalso; omega)))|refine ak rfl ?_|refine r2Y ?_|fail)
  exact cm (ar (.int _ _) (ar (.int _ _) ac))
 have hf1:=hf (k + 1) ⟨by omega,by omega⟩;have hl1:=hll (k + 1);have hb1:=hbd k;have hb2:=hbd (k + 1);have hes:ir c (k + 1)=if (k + 1) % 2=1 then ir c k + ((fV c (k + 1)).length:Int) else ir c k - ((fV c (k + 1)).length:Int):=rfl
 have hr:∀ tb tf,bh .rem tb tf (.int .i64 ((k + 1:Nat):Int)) (.int .i64 2)=some (.int .i64 (((k + 1) % 2:Nat):Int)):=fun tb tf=>by
  rw [qR (by omega) (by omega)]
  congr 2
 generalize fV c (k + 1)=L at *;generalize ir c k=E0 at *;by_cases hodd:(k + 1) % 2=1
 ·rw [if_pos hodd] at hes;rw [hes] at hb2;have zr:decide ((((k + 1) % 2:Nat):Int)=1)=true:=bt (by omega);clear zz;have zz:=aI @g2 (aI @z0 (aI @hr (aI @zr @aj))); repeat' (first|refine zW ?_|apply a_n|refine zO ?_|refine vY ?_|refine cY ?_ (hp:=hf1) (hs:=by (first | refine af ?_ rfl | apply ag); (repeat' (first | exact ac | apply an | apply ah | exact aW _)); first | done | fail)|refine cTY ?_|refine cFY ?_|(refine zGY ?_ ?_ <;> (intro _hg; try (exfalso; omega)))|fail)
  exact ⟨k + 1,by omega,⟨by omega,g2⟩,by rw [hes,show ((k + 1 + 1:Nat):Int)=((k + 1:Nat):Int) + 1 by omega]; simp (disch:=omega) only [agr,ZG,reduceEqDiff,↓reduceIte]⟩
 ·rw [if_neg hodd] at hes;rw [hes] at hb2;have zr:decide ((((k + 1) % 2:Nat):Int)=1)=false:=bj (by omega);clear zz;have zz:=aI @g2 (aI @z0 (aI @hr (aI @zr @aj))); repeat' (first|refine zW ?_|apply a_n|refine zO ?_|refine vY ?_|refine cY ?_ (hp:=hf1) (hs:=by (first | refine af ?_ rfl | apply ag); (repeat' (first | exact ac | apply an | apply ah | exact aW _)); first | done | fail)|refine cFY ?_|(refine zGY ?_ ?_ <;> (intro _hg; try (exfalso; omega)))|fail)
  exact ⟨k + 1,by omega,⟨by omega,g2⟩,by rw [hes,show ((k + 1 + 1:Nat):Int)=((k + 1:Nat):Int) + 1 by omega]; simp (disch:=omega) only [agr,ZG,reduceEqDiff,↓reduceIte]⟩
theorem xd (c:List Spx) (hc:Shn c) (hs:∀ s ∈ c,Shn s):Pure Tryz.prog 23 [dl c] (.tup [.int .i64 (iT c - 1),.bool (D3 c)]):=by
 refine Pure.of_c2 follows Ki (br rfl) ?_;simp only [b23,aU];unfold iT D3;have hc':c.length ≤ 17592186044416:=hc;have zz:=aI @au (aI @ao @aj); repeat' (first|refine zW ?_|apply a_n|refine zO ?_|refine vY ?_|refine bxY ?_|fail)
 refine bC (X:=Nat) (fun k=>[(4,.int .i64 (lO c k).1),(5,.int .i64 (lO c k).2),(9,aC c),(10,.int .i64 c.length),(11,.int .i64 k)]) (fun k H nx=>k ≤ c.length) (fun k=>c.length - k) 0 (cf _) (by (iterate 5 refine And.intro rfl ?_); trivial) ?_;rintro k H nx h1;have hb:=wc (m:=17592186044416) (by omega) (fun s h=>by have:s.length ≤ _:=hs s h; omega) h1;by_cases hk:k < c.length
 rotate_left
 ·obtain rfl:k=c.length:=by omega
  generalize lO c c.length=P at *;obtain ⟨a,m⟩:=P;dsimp only at hb ⊢;by_cases h0:m=0
  ·have z:decide (m=0)=true:=bt h0;rw [z,Bool.true_or];clear zz;have zz:=@z; repeat' (first|refine zW ?_|apply a_n|apply a_x|refine zO ?_|refine vY ?_|refine gFY ?_|(refine zGY ?_ ?_ <;> (intro _hg; try (exfalso; omega)))|refine ak rfl ?_|refine r2Y ?_|fail)
   exact cm (ar (.int _ _) (ar (.bool _) ac))
  ·have z:decide (m=0)=false:=bj h0;rw [z,Bool.false_or];clear zz;have zz:=@z; repeat' (first|refine zW ?_|apply a_n|apply a_x|refine zO ?_|refine vY ?_|refine gTY ?_|(refine zGY ?_ ?_ <;> (intro _hg; try (exfalso; omega)))|refine ak rfl ?_|refine r2Y ?_|fail)
   exact cm (ar (.int _ _) (ar (.bool _) ac))
 have ix:=fq hk;have hsl:(c.getD k default).length ≤ 17592186044416:=hs _ (aE hk);have e:lO c (k + 1)=(min (lO c k).1 ((c.getD k default).length:Int),max (lO c k).2 ((c.getD k default).length:Int)):=rfl;generalize c.getD k default=s at *;clear zz;have zz:=aI @ix @az; repeat' (first|refine zW ?_|apply a_n|refine zO ?_|refine vY ?_|(refine zGY ?_ ?_ <;> (intro _hg; try (exfalso; omega)))|fail)
 exact ⟨k + 1,by omega,by omega,by rw [e]; simp (disch:=omega) only [agr,ZG,reduceEqDiff,↓reduceIte]⟩
theorem oq (c:List Spx) (hc:aO c=0) (hl:c.length ≤ 50):Pure Tryz.prog 8 [dl c] (.tup [.int .i64 (iT c - 1),.bool (D3 c),.int .i64 0]):=by
 refine Pure.of_c2 follows is8 (br rfl) ?_;simp only [b8,aU];have hcc:=jD c (show _ ≤ _ by omega) (jh hc);rw [hc] at hcc;have hd:=xd c (show _ ≤ _ by omega) (jh hc);have z0:decide ((0:Int) ≠ 0)=false:=rfl;have zz:=aI @z0 (aI @au @ao); repeat' (first|refine zW ?_|apply a_n|refine zO ?_|refine vY ?_|refine cY ?_ (hp:=by first | exact hcc | exact hd) (hs:=by (first | refine af ?_ rfl | apply ag); (repeat' (first | exact ac | apply an | apply ah | exact aV _)); first | done | fail)|refine bxY ?_|refine cFY ?_|refine ak rfl ?_|refine r3Y ?_|fail)
 refine cm (ar (.int _ _) (ar (.bool _) (ar (.int _ _) ac)))
theorem AX (c:List Spx) (d:Nat) (hc:aO c=0) (hl:c.length ≤ 50) (hd:d ≤ 8):Pure Tryz.prog 44 [dl c,.int .i64 d] (.tup [.int .i64 (aD c ((d:Int) + 1)).length,.int .i64 0]):=by
 refine Pure.of_c2 follows JQ (br rfl) ?_;simp only [b44,aU];by_cases h8:d=8
 ·rw [EZ hc (by omega)];subst h8;have zz:=aI @au @ao; repeat' (first|refine zW ?_|apply a_n|apply a_r|refine zO ?_|refine vY ?_|refine bxY ?_|refine gTY ?_|(refine zGY ?_ ?_ <;> (intro _hg; try (exfalso; omega)))|refine ak rfl ?_|refine r2Y ?_|fail)
  exact cm (ar (.int _ _) (ar (.int _ _) ac))
 have hs:=jU c ((d:Int) + 1) hl (jh hc)
 have e:eX c ((d:Int) + 1)=(aD c ((d:Int) + 1),0):=by
  unfold eX aD;rw [if_neg (fun q=>q hc),if_neg (by omega),if_neg (by omega)]
 rw [e] at hs;dsimp only at hs;have hll:=ez hc hl (d:=(d:Int) + 1);generalize aD c ((d:Int) + 1)=X at *;have z1:decide ((d:Int) < 0)=false:=bj (by omega);have z2:decide ((8:Int) ≤ d)=false:=bj (by omega);have zz:=aI @au (aI @ao (aI @aj (aI @z1 @z2))); repeat' (first|refine zW ?_|apply a_n|refine zO ?_|refine vY ?_|refine cY ?_ (hp:=hs) (hs:=by (first | refine af ?_ rfl | apply ag); (repeat' (first | exact ac | apply an | apply ah | exact aV _)); first | done | fail)|refine bxY ?_|refine gTY ?_|refine cFY ?_|refine ak rfl ?_|refine r2Y ?_|fail)
 exact cm (ar (.int _ _) (ar (.int _ _) ac))
theorem Ak (c:List Spx) (d:Nat) (hc:aO c=0) (hl:c.length ≤ 50) (hd:d ≤ 8):Pure Tryz.prog 33 [dl c,.int .i64 d] (.tup [eJ (aD c ((d:Int) + 1)).length (dQ (aD c ((d:Int) + 1)) (aD c d)),.int .i64 0]):=by
 refine Pure.of_c2 follows Ky (br rfl) ?_;simp only [b33,aU];by_cases h8:d=8
 ·rw [EZ hc (by omega),D1];subst h8;have hs:Pure Tryz.prog 44 [dl c,.int .i64 (((8:Nat):Int) - 1)] (.tup [.int .i64 (aD c ((8:Nat):Int)).length,.int .i64 0]):=AX c 7 hc hl (by omega);have hll:=ez hc hl (d:=((8:Nat):Int));generalize (aD c ((8:Nat):Int)).length=n at *;have hzc:bl (AV.agg [AV.esl]) n=List.replicate n .esl:=by simp [bl,AV.cells]
  have zz:=aI @au @ao; repeat' (first|refine zW ?_|apply a_n|refine zO ?_|refine vY ?_|refine cY ?_ (hp:=hs) (hs:=by (first | refine af ?_ rfl | apply ag); (repeat' (first | exact ac | apply an | apply ah | exact aV _)); first | done | fail)|refine alY ?_|refine bxY ?_|(refine zGY ?_ ?_ <;> (intro _hg; try (exfalso; omega)))|fail)
  refine Aj (k1:=.i64) (k2:=.i64) (n:=n) (m:=n) rfl ev0 ev0 (by omega) (Int.le_refl _) (by omega) (by omega) ?_;rw [cQ,hzc,Nat.mul_one]
  repeat' (first|apply a_n|refine zO ?_|refine vY ?_|refine stY ?_|refine ak rfl ?_|refine r2Y ?_|fail)
  exact mE (Cj (by rw [ae (by omega),ai])) rfl
 have hm:=EX c d hl (jh hc)
 have e:lg c d=(((((aD c ((d:Int) + 1)).length:Nat):Int),dQ (aD c ((d:Int) + 1)) (aD c d)),0):=by
  unfold lg;rw [if_neg (fun q=>q hc),if_neg (by omega)]
 rw [e] at hm;dsimp only at hm;generalize dQ (aD c ((d:Int) + 1)) (aD c d)=R at *;generalize (aD c ((d:Int) + 1)).length=n at *;rw [fS] at hm ⊢;have z2:decide ((d:Int) < 8)=true:=bt (by omega);have zz:=aI @au (aI @ao @z2); repeat' (first|refine zW ?_|apply a_n|apply a_r|refine zO ?_|refine vY ?_|refine cY ?_ (hp:=hm) (hs:=by (first | refine af ?_ rfl | apply ag); (repeat' (first | exact ac | apply an | apply ah | exact aV _)); first | done | fail)|refine alY ?_|refine bxY ?_|refine stY ?_|refine cTY ?_|refine ak rfl ?_|refine r2Y ?_|fail)
 exact mE (o6 _).snap rfl
end Go.Proofs.YtlodfaaceehfmaaGreat
namespace Go.Proofs.YtlodfaaceehfmaaGreat
open Go Go.Abs
def rkF (c:List Spx) (d:Nat):Nat:=(r8 (dQ (aD c ((d:Int) + 1)) (aD c d)) (aD c ((d:Int) + 1)).length).length
def btF (c:List Spx) (d:Nat):Int:=((aD c ((d:Int) + 1)).length:Int) - (rkF c d:Int) - (rkF c (d + 1):Int)
def btL (c:List Spx) (m:Nat):List Int:=(List.range m).map (btF c)
theorem sC {c:List Spx} {d:Nat}:rkF c d ≤ (aD c ((d:Int) + 1)).length:=by
 unfold rkF r8;rw [bO];exact oZ
theorem Dn {c:List Spx} (hc:aO c=0):∃ m:Nat,iT c=m∧m ≤ 8:=by
 have h:=wc (c:=c) (m:=8) (by omega) (fun s hs=>by have:=(cV ((dq hc).2.1 s hs)).2.1; omega) (aP _);exact ⟨(iT c).toNat,by unfold iT; omega,by unfold iT; omega⟩
def rkK (n:Nat):List Int:=bF (List.range n)
theorem qP {n d:Nat}:(d:Int) ∈ rkK n ↔ d < n:=by
 unfold rkK;rw [lP];exact ⟨fun ⟨i,h1,h2⟩=>by have:=ew.1 h1; omega,fun h=>⟨d,ew.2 h,rfl⟩⟩
theorem AI {n d:Nat} (h:d < n):(rkK n).idxOf (d:Int)=d:=by
 have hn:(rkK n).Nodup:=tH (fun {x y} (q:x < y) e=>by omega) (ec List.pairwise_lt_range);have h1:=pN.2 (qP.2 h);have hl:d < (rkK n).length:=by unfold rkK bF; simpa using h
 have h2:(rkK n)[d]=(d:Int):=by
  have h4:(rkK n)[d]=(((List.range n)[d]'(by simpa using h):Nat):Int):=List.getElem_map ..;rw [h4,List.getElem_range]
 have h3:(rkK n)[(rkK n).idxOf (d:Int)]=(rkK n)[d]:=by rw [List.getElem_idxOf h1,h2]
 exact (List.getElem_inj hn).1 h3
theorem CZ {n:Nat}:rkK (n + 1)=rkK n ++ [(n:Int)]:=by unfold rkK bF; rw [List.range_succ,ed]; rfl
def rkV (c:List Spx) (n:Nat):List AV:=(List.range n).map fun d=>.int .i64 (rkF c d)
theorem ED {c:List Spx} {n:Nat}:rkV c (n + 1)=rkV c n ++ [.int .i64 (rkF c n)]:=by unfold rkV; rw [List.range_succ,ed]; rfl
theorem An {c:List Spx} {n d:Nat} (h:d < n):(rkV c n).getD d .undef=.int .i64 (rkF c d):=by unfold rkV; simp [List.getD,h]
theorem ER {c:List Spx} {n:Nat}:btL c (n + 1)=btL c n ++ [btF c n]:=by unfold btL; rw [List.range_succ,ed]; rfl
attribute [local irreducible] aM am bm be aX a6 aG aZ bf bI Go.Abs.Fn bc Go.Abs.Pure aB aQ Yl
theorem Fq (c:List Spx) (m:Nat) (hc:aO c=0) (hl:c.length ≤ 50) (hm:iT c=m) (hm8:m ≤ 8):Pure Tryz.prog 20 [dl c] (.tup [aL (btL c m),.int .i64 0]):=by
 refine Pure.of_c2 follows Kp (br rfl) ?_;simp only [b20,aU];have hdi:=oq c hc hl;rw [hm] at hdi;have z0:decide ((0:Int) ≠ 0)=false:=rfl;have hed:=fun d (h:d ≤ 8)=>Ak c d hc hl h;have hsz:=fun d (h:d ≤ 8)=>AX c d hc hl h;have hrl:=fun d:Int=>ez hc hl (d:=d);have hrk:=fun d:Nat=>zS (aD c ((d:Int) + 1)).length (dQ (aD c ((d:Int) + 1)) (aD c d)) (qU (by have:=hrl ((d:Int) + 1); omega) (by have:=hrl d; omega));have hrf:=fun d:Nat=>sC (c:=c) (d:=d);have zz:=aI @z0 (aI @au @ao); repeat' (first|refine zW ?_|apply a_n|refine zO ?_|refine vY ?_|refine cY ?_ (hp:=hdi) (hs:=by (first | refine af ?_ rfl | apply ag); (repeat' (first | exact ac | apply an | apply ah | exact aV _)); first | done | fail)|refine bxY ?_|refine cFY ?_|fail)
 refine Aw ?_
 repeat' (first|refine zW ?_|apply a_n|refine zO ?_|refine vY ?_|fail)
 refine bC (X:=Nat) (fun k=>[(1,.ptr 0 1 0),(4,.int .i64 ((m:Int) - 1)),(7,.mp 1),(26,.int .i64 ((m:Int) - 1 + 2)),(27,.int .i64 k)]) (fun k H nx=>k ≤ m + 1∧2 ≤ nx∧H 0=some [aC c]∧H 1=some [.omap ((rkK k).map (AV.int .i64)) (rkV c k)]) (fun k=>m + 1 - k) 0 ⟨cf _,aP _,rfl,rfl⟩ (by (iterate 5 refine And.intro rfl ?_); trivial) ?_;rintro k H nx ⟨g1,g2,g3,g4⟩;by_cases hk:k < m + 1
 ·have hed1:=hed k (by omega);have hrk1:=hrk k;have hr1:=hrl ((k:Int) + 1);have hd1:Dat (eJ (aD c ((k:Int) + 1)).length (dQ (aD c ((k:Int) + 1)) (aD c k))):=fB _ _;change Pure Tryz.prog 10 _ (.tup [.int .i64 (rkF c k),.int .i64 0]) at hrk1;rw [fS] at hed1 hrk1 hd1;generalize dQ (aD c ((k:Int) + 1)) (aD c k)=R at *;generalize (aD c ((k:Int) + 1)).length=n at *;have z1:decide ((k:Int) < (m:Int) - 1 + 2)=true:=bt (by omega);clear zz;have zz:=aI @g3 (aI @z0 (aI @z1 (aI @au @ao))); repeat' (first|refine zW ?_|apply a_n|refine zO ?_|refine vY ?_|refine cY ?_ (hp:=by first | exact hed1 | exact hrk1) (hs:=by (first | refine af ?_ rfl | apply ag); (repeat' (first | exact ac | apply an | apply ah | exact aV _ | exact hd1)); first | done | fail)|refine alY ?_|refine stY ?_|refine cTY ?_|refine cFY ?_|fail)
  have hmf:=nq (k:Int) (rkK k);rw [if_neg (fun q=>by have:=qP.1 q; omega)] at hmf;refine u9 ev0 ((ae (by omega)).trans ((ae (by omega)).trans g4)) ev0 ev0 rfl hmf ?_;clear zz;have zz:=@z0; repeat' (first|refine zW ?_|apply a_n|refine zO ?_|refine vY ?_|refine cFY ?_|fail)
  refine ⟨k + 1,by omega,⟨by omega,by omega,by rw [ae (by omega),ae (by omega),ae (by omega)]; exact g3,?_⟩,ag0⟩;rw [ai,CZ,ED,ed];rfl
 obtain rfl:k=m + 1:=by omega
 have z1:decide (((m + 1:Nat):Int) < (m:Int) - 1 + 2)=false:=bj (by omega);clear zz;have zz:=@z1; repeat' (first|refine zW ?_|apply a_n|apply a_x|refine zO ?_|refine vY ?_|refine cFY ?_|fail)
 refine bC (X:=AV × Nat) (fun x=>[(1,.ptr 0 1 0),(7,.mp 1),(11,x.1),(51,.int .i64 ((m:Int) - 1 + 1)),(52,.int .i64 x.2)]) (fun x H nx=>x.2 ≤ m∧2 ≤ nx∧H 0=some [aC c]∧H 1=some [.omap ((rkK (m + 1)).map (AV.int .i64)) (rkV c (m + 1))]∧Row H 1 x.1 ((btL c x.2).map (AV.int .i64))∧∀ b,dF x.1=some b→2 ≤ b∧b < nx) (fun x=>m - x.2) (.esl,0) ⟨cf _,g2,g3,g4,Row.nil,fun b h=>(by cases h)⟩ (by (iterate 5 refine And.intro rfl ?_); trivial) ?_;clear zz;clear g1 g2 g3 g4;rintro ⟨sv,k⟩ H nx ⟨g1,g2,g3,g4,g5,g6⟩;dsimp only at g1 g2 g3 g4 g5 g6 ⊢;by_cases hk:k < m
 rotate_left
 ·obtain rfl:k=m:=by omega
  have z1:decide ((k:Int) < (k:Int) - 1 + 1)=false:=bj (by omega);have zz:=@z1; repeat' (first|refine zW ?_|apply a_n|apply a_x|refine zO ?_|refine vY ?_|refine cFY ?_|refine ak rfl ?_|refine r2Y ?_|fail)
  exact lh g5.snapI rfl
 have hsz1:=hsz k (by omega);have hr1:=hrl ((k:Int) + 1);have hr2:=hrl (((k + 1:Nat):Int) + 1);have hf1:=hrf k;have hf2:=hrf (k + 1);have hmf1:=nq (k:Int) (rkK (m + 1));rw [if_pos (qP.2 (by omega)),AI (by omega)] at hmf1;have hmf2:=nq ((k + 1:Nat):Int) (rkK (m + 1));rw [if_pos (qP.2 (by omega)),AI (by omega)] at hmf2;rw [show ((k + 1:Nat):Int)=(k:Int) + 1 by omega] at hmf2;have hv1:Go.Abs.mget (.int .i64 0) false (some k) (rkV c (m + 1))=.int .i64 (rkF c k):=An (by omega);have hv2:Go.Abs.mget (.int .i64 0) false (some (k + 1)) (rkV c (m + 1))=.int .i64 (rkF c (k + 1)):=An (by omega);have hsn:=ER (c:=c) (n:=k);have hbl:(btL c k).length=k:=by unfold btL; simp
 have hbf:btF c k=((aD c ((k:Int) + 1)).length:Int) - (rkF c k:Int) - (rkF c (k + 1):Int):=rfl;rw [hbf] at hsn;generalize rkF c k=f1 at *;generalize rkF c (k + 1)=f2 at *;generalize (aD c ((k:Int) + 1)).length=n at *;generalize (aD c (((k + 1:Nat):Int) + 1)).length=n2 at *;have z1:decide ((k:Int) < (m:Int) - 1 + 1)=true:=bt (by omega);have zz:=aI @g3 (aI @z0 (aI @z1 (aI @au @ao))); repeat' (first|refine zW ?_|apply a_n|refine zO ?_|refine vY ?_|refine cY ?_ (hp:=hsz1) (hs:=by (first | refine af ?_ rfl | apply ag); (repeat' (first | exact ac | apply an | apply ah | exact aV _)); first | done | fail)|refine cTY ?_|refine cFY ?_|fail)
 refine nt ev0 g4 ev0 rfl hmf1 ?_;rw [hv1]
 repeat' (first|apply a_n|refine zO ?_|refine vY ?_|fail)
 refine nt ev0 g4 ev0 rfl hmf2 ?_;rw [hv2]
 repeat' (first|apply a_n|refine zO ?_|refine vY ?_|refine blY ?_|fail)
 refine iq rfl ev0 (g5.same fun b hb=>?_) ev0 dp rfl rfl jt (by rw [bO]; omega) (by rw [bO]; omega) ?_
 ·have:=g6 b hb;rw [ae (by omega)]
 rintro s2 H2 nx2 hr3 i1 i2 i3 i4;have hdo:∀ b,b < 2→dF sv ≠ some b:=fun b hb e=>by have:=g6 b e; omega
 have lo2:∀ b,b < 2→H2 b=H b:=fun b hb=>(i3 b (by omega) (hdo b hb)).trans (by rw [ae (by omega)])
 repeat' (first|apply a_n|refine zO ?_|refine vY ?_|fail)
 refine ⟨(s2,k + 1),by dsimp only; omega,⟨by dsimp only; omega,by omega,(lo2 0 (by omega)).trans g3,(lo2 1 (by omega)).trans g4,?_,fun b hb=>?_⟩,ag0⟩
 ·dsimp only;rw [hsn,ed]; exact hr3
 ·rcases i4 b hb with h | h
  ·have:=g6 b h; omega
  ·omega
theorem yN (c:List Spx) (m:Nat) (hc:aO c=0) (hl:c.length ≤ 50) (hm:iT c=m) (hm8:m ≤ 8):Pure Tryz.prog 6 [dl c] (.tup [aL (btL c m),.int .i64 0]):=by
 have hch:Pure Tryz.prog 19 [dl c] (.int .i64 0):=by
  refine Pure.of_c2 follows Iz (br rfl) ?_;simp only [b19,aU];have he:=wt c hc hl;have zz:=aI @au @ao; repeat' (first|refine zW ?_|apply a_n|refine zO ?_|refine vY ?_|refine cY ?_ (hp:=he) (hs:=by (first | refine af ?_ rfl | apply ag); (repeat' (first | exact ac | apply an | apply ah | exact aV _)); first | done | fail)|refine bxY ?_|refine ak rfl ?_|refine r1Y ?_|fail)
  exact .int _ _
 refine Pure.of_c2 follows is6 (br rfl) ?_;simp only [b6,aU];have hb:=Fq c m hc hl hm hm8;have z0:decide ((0:Int) ≠ 0)=false:=rfl;have zz:=aI @z0 (aI @au @ao); repeat' (first|refine zW ?_|apply a_n|refine zO ?_|refine vY ?_|refine cY ?_ (hp:=by first | exact hch | exact hb) (hs:=by (first | refine af ?_ rfl | apply ag); (repeat' (first | exact ac | apply an | apply ah | exact aV _)); first | done | fail)|refine bxY ?_|refine cFY ?_|refine ak rfl ?_|refine r2Y ?_|fail)
 exact lh (bE _).snap rfl
end Go.Proofs.YtlodfaaceehfmaaGreat
namespace Go.Proofs.YtlodfaaceehfmaaGreat
open Go Go.Abs
theorem EJ {a:List Spx} (h:a ≠ []):eG 1 (aC a) (.int .i64 0)=some (.iptr [aF (a.getD 0 default)] 0):=by
 have:=fq (l:=a) (k:=0) (nB.2 h);exact this
attribute [local irreducible] aM am bm be aX a6 aG aZ bf bI Go.Abs.Fn bc Go.Abs.Pure aB aQ Yl
theorem nH (c:List Spx) (hc:aO c=0) (hl:c.length ≤ 50):Pure Tryz.prog 19 [dl c] (.int .i64 0):=by
 refine Pure.of_c2 follows Iz (br rfl) ?_;simp only [b19,aU];have he:=wt c hc hl;have zz:=aI @au @ao; repeat' (first|refine zW ?_|apply a_n|refine zO ?_|refine vY ?_|refine cY ?_ (hp:=he) (hs:=by (first | refine af ?_ rfl | apply ag); (repeat' (first | exact ac | apply an | apply ah | exact aV _)); first | done | fail)|refine bxY ?_|refine ak rfl ?_|refine r1Y ?_|fail)
 exact .int _ _
theorem Jl (s t:Spx) (hs:Shn s) (ht:Shn t):Pure Tryz.prog 37 [aF s,aF t] (.bool (decide (s=t))):=by
 refine Pure.of_c2 follows JX (br rfl) ?_;simp only [b37,aU];have hc:=gd s t hs ht;have e:decide (bG s t=0)=decide (s=t):=decide_eq_decide.2 ⟨fun h=>qW h,fun h=>by rw [h]; exact f9 t⟩;have zz:=@e; repeat' (first|refine zW ?_|apply a_n|refine zO ?_|refine vY ?_|refine cY ?_ (hp:=hc) (hs:=by (first | refine af ?_ rfl | apply ag); (repeat' (first | exact ac | apply an | apply ah | exact aH _)); first | done | fail)|refine ak rfl ?_|refine r1Y ?_|fail)
 exact .bool _
theorem IV (a b:List Spx) (ha:ShC a) (hb:ShC b):Pure Tryz.prog 36 [aC a,aC b,.func 37 []] (.bool (decide (a=b))):=by
 refine Pure.of_c2 follows JA (br rfl) ?_;simp only [b36,aU];by_cases hl:a.length=b.length
 rotate_left
 ·have z:decide ((a.length:Int) ≠ b.length)=true:=bt (by omega);rw [bj (fun e=>hl (by rw [e]))];have zz:=aI @aj @z; repeat' (first|refine zW ?_|apply a_n|apply a_r|refine zO ?_|refine vY ?_|refine cTY ?_|refine ak rfl ?_|refine r1Y ?_|fail)
  exact .bool _
 have z:decide ((a.length:Int) ≠ b.length)=false:=by rw [hl]; exact bj (fun h=>h rfl)
 have hal:=ha.1;have zz:=aI @aj @z; repeat' (first|refine zW ?_|apply a_n|refine zO ?_|refine vY ?_|refine cFY ?_|fail)
 refine oN (X:=Nat) (fun k=>[(0,aC a),(1,aC b),(2,.func 37 []),(15,aC a),(16,.int .i64 a.length),(17,.int .i64 k)]) (fun k=>k ≤ a.length∧∀ i,i < k→a.getD i default=b.getD i default) (fun k=>a.length - k) 0 ⟨cf _,fun i h=>absurd h (by omega)⟩ ag0 ?_;rintro k ⟨h1,h2⟩;by_cases hk:k < a.length
 rotate_left
 ·obtain rfl:k=a.length:=by omega
  have e:a=b:=List.ext_getElem hl fun i i1 i2=>by
   have:=h2 i i1;simpa [List.getD,i1,i2] using this
  rw [bt e]
  repeat' (first|refine zW ?_|apply a_n|apply a_x|refine zO ?_|refine vY ?_|(refine zGY ?_ ?_ <;> (intro _hg; try (exfalso; omega)))|refine ak rfl ?_|refine r1Y ?_|fail)
  exact .bool _
 have ix:=fq hk;have iy:=fq (l:=b) (k:=k) (by omega);have hcl:=Jl _ _ (ha.2 _ (aE hk)) (hb.2 _ (aE (l:=b) (i:=k) (by omega)));by_cases e:a.getD k default=b.getD k default
 ·rw [bt e] at hcl
  have hn:∀ i,i < k + 1→a.getD i default=b.getD i default:=fun i hi=>by
   rcases (by omega:i < k ∨ i=k) with h | rfl
   ·exact h2 i h
   ·exact e
  generalize a.getD k default=s at *;generalize b.getD k default=t at *;clear zz;have zz:=aI @ix @iy; repeat' (first|refine zW ?_|apply a_n|refine zO ?_|refine vY ?_|refine cY ?_ (hp:=hcl) (hs:=by (first | refine af ?_ rfl | apply ag); (repeat' (first | exact ac | apply an | apply ah | exact aH _)); first | done | fail)|refine cFY ?_|(refine zGY ?_ ?_ <;> (intro _hg; try (exfalso; omega)))|fail)
  exact ⟨k + 1,⟨by omega,hn⟩,by omega,ag0,rfl,rfl⟩
 ·rw [bj e] at hcl;rw [bj (fun q=>e (by rw [q]))];generalize a.getD k default=s at *;generalize b.getD k default=t at *;clear zz;have zz:=aI @ix @iy; repeat' (first|refine zW ?_|apply a_n|apply a_r|refine zO ?_|refine vY ?_|refine cY ?_ (hp:=hcl) (hs:=by (first | refine af ?_ rfl | apply ag); (repeat' (first | exact ac | apply an | apply ah | exact aH _)); first | done | fail)|refine cTY ?_|(refine zGY ?_ ?_ <;> (intro _hg; try (exfalso; omega)))|refine ak rfl ?_|refine r1Y ?_|fail)
  exact .bool _
theorem w6 (c a:List Spx) (v:List Int) (hc:aO c=0) (hl:c.length ≤ 50) (ha:ShC a) (hv:lG c a=(v,0)) (hz:z9 a=(true,0)):Pure Tryz.prog 32 [dl c,aC a] (.tup [aL v,.int .i64 0]):=by
 refine Pure.of_c2 follows JG (br rfl) ?_;simp only [b32,aU];have h1:=y8 c a hl (jh hc) ha;have h2:=H6 a ha;rw [hv] at h1;rw [hz] at h2;dsimp only at h1 h2;have z0:decide ((0:Int) ≠ 0)=false:=rfl;have zz:=aI @z0 (aI @au @ao); repeat' (first|refine zW ?_|apply a_n|refine zO ?_|refine vY ?_|refine cY ?_ (hp:=by first | exact h1 | exact h2) (hs:=by (first | refine af ?_ rfl | apply ag); (repeat' (first | exact ac | apply an | apply ah | exact aV _ | exact aW _)); first | done | fail)|refine bxY ?_|refine gTY ?_|(refine zGY ?_ ?_ <;> (intro _hg; try (exfalso; omega)))|refine cFY ?_|refine ak rfl ?_|refine r2Y ?_|fail)
 exact lh (bE _).snap rfl
theorem D4 (c:List Spx) (hc:aO c=0) (hl:c.length ≤ 50):Pure Tryz.prog 13 [dl c,aC []] (.tup [aC [],aC [],.bool true,.int .i64 0]):=by
 refine Pure.of_c2 follows Iy (br rfl) ?_;simp only [b13,aU];have hch:=nH c hc hl
 have hv:lG c []=([],0):=by
  unfold lG;rw [if_neg (fun q=>q hc),if_neg (fun q=>q rfl),if_pos rfl]
 have hcy:=w6 c [] [] hc hl ⟨by decide,by decide⟩ hv (by decide);have z0:decide ((0:Int) ≠ 0)=false:=rfl;have z1:decide ((([]:List Spx).length:Int)=0)=true:=rfl;have zz:=aI @z0 (aI @z1 (aI @au (aI @ao @aj))); repeat' (first|refine zW ?_|apply a_n|apply a_r|refine zO ?_|refine vY ?_|refine cY ?_ (hp:=by first | exact hch | exact hcy) (hs:=by (first | refine af ?_ rfl | apply ag); (repeat' (first | exact ac | apply an | apply ah | exact aV _ | exact aW _)); first | done | fail)|refine bxY ?_|refine cTY ?_|refine cFY ?_|refine ak rfl ?_|fail)
 refine r_4 rfl rfl rfl rfl ?_;exact cm (ar (.eslsl 1) (ar (.eslsl 1) (ar (.bool _) (ar (.int _ _) ac))))
theorem Dq (c a b:List Spx) (d:Nat) (v x:List Int) (hc:aO c=0) (hl:c.length ≤ 50) (ha:ShC a) (h0:a ≠ []) (hd:(a.getD 0 default).length=d + 1) (hd8:d + 1 ≤ 7) (hv:lG c a=(v,0)) (hz:z9 a=(true,0))
    (hvr:∀ z ∈ v,0 ≤ z∧z < ((aD c ((d:Int) + 1)).length:Int)) (hva:bw v) (hx:Aa (dQ (aD c ((d:Int) + 2)) (aD c ((d:Int) + 1))) (aD c ((d:Int) + 2)).length v=(x,[],true)) (hxl:x.length ≤ 100000) (hb:tv c ((d:Int) + 1) x=(b,0)) :
    Pure Tryz.prog 13 [dl c,aC a] (.tup [aC b,aC [],.bool true,.int .i64 0]):=by
 refine Pure.of_c2 follows Iy (br rfl) ?_;simp only [b13,aU];have hch:=nH c hc hl;have hcy:=w6 c a v hc hl ha hv hz;have hed:=Ak c (d + 1) hc hl (by omega);rw [show ((d + 1:Nat):Int)=(d:Int) + 1 by omega,show (d:Int) + 1 + 1=(d:Int) + 2 by omega] at hed;have hr1:=ez hc hl (d:=(d:Int) + 1);have hr2:=ez hc hl (d:=(d:Int) + 2);have hso:=Fs (aD c ((d:Int) + 2)).length (dQ (aD c ((d:Int) + 2)) (aD c ((d:Int) + 1))) v (qU (by omega) (by omega)) (by rw [nW]; exact hvr) hva;rw [hx] at hso;dsimp only at hso;have hcn:=AL c ((d:Int) + 1) x hl (jh hc) hxl;rw [hb] at hcn;dsimp only at hcn;have ix:=EJ h0;have hal:=ha.1;have hap:=nB.2 h0;have hd1:Dat (eJ (aD c ((d:Int) + 2)).length (dQ (aD c ((d:Int) + 2)) (aD c ((d:Int) + 1)))):=fB _ _;rw [fS] at hed hso hd1;generalize dQ (aD c ((d:Int) + 2)) (aD c ((d:Int) + 1))=R at *;generalize (aD c ((d:Int) + 2)).length=n at *;generalize a.getD 0 default=s at *;have hsl:(s.length:Int) - 1 + 1=(d:Int) + 1:=by omega
 have z0:decide ((0:Int) ≠ 0)=false:=rfl;have z1:decide ((a.length:Int)=0)=false:=bj (by omega);have zz:=aI @z0 (aI @z1 (aI @ix (aI @hsl (aI @au (aI @ao (aI @aj @az)))))); repeat' (first|refine zW ?_|apply a_n|apply a_r|refine zO ?_|refine vY ?_|refine cY ?_ (hp:=by first | exact hch | exact hcy | exact hed | exact hso | exact hcn) (hs:=by (first | refine af ?_ rfl | apply ag); (repeat' (first | exact ac | apply an | apply ah | exact aV _ | exact aW _ | exact hd1 | exact bE _)); first | done | fail)|refine alY ?_|refine bxY ?_|refine stY ?_|refine cTY ?_|refine cFY ?_|refine ak rfl ?_|fail)
 refine r_4 rfl rfl rfl rfl ?_;exact cm (ar (aW b).snap (ar (.eslsl 1) (ar (.bool _) (ar (.int _ _) ac))))
theorem Fk (c a b:List Spx) (v w:List Int) (hc:aO c=0) (hl:c.length ≤ 50) (ha:ShC a) (hb:ShC b) (hv:lG c a=(v,0)) (hw:lG c b=(w,0)):Pure Tryz.prog 35 [dl c,aC a,aC b] (.tup [aL v,aL w,.int .i64 0]):=by
 refine Pure.of_c2 follows JW (br rfl) ?_;simp only [b35,aU];have hch:=nH c hc hl;have h1:=y8 c a hl (jh hc) ha;have h2:=y8 c b hl (jh hc) hb;rw [hv] at h1;rw [hw] at h2;dsimp only at h1 h2;have z0:decide ((0:Int) ≠ 0)=false:=rfl;have zz:=aI @z0 (aI @au @ao); repeat' (first|refine zW ?_|apply a_n|refine zO ?_|refine vY ?_|refine cY ?_ (hp:=by first | exact hch | exact h1 | exact h2) (hs:=by (first | refine af ?_ rfl | apply ag); (repeat' (first | exact ac | apply an | apply ah | exact aV _ | exact aW _)); first | done | fail)|refine bxY ?_|refine cFY ?_|refine ak rfl ?_|refine r3Y ?_|fail)
 exact cm (ar (bE v).snap (ar (bE w).snap (ar (.int _ _) ac)))
theorem uk (c a b:List Spx) (v w:List Int) (hc:aO c=0) (hl:c.length ≤ 50) (ha:ShC a) (hb:ShC b) (hv:lG c a=(v,0)) (hw:lG c b=(w,0)) (hd:a ≠ []→b ≠ []→(b.getD 0 default).length=(a.getD 0 default).length + 1) (he:iH b=(a,0)) :
    Pure Tryz.prog 14 [dl c,aC a,aC b] (.int .i64 0):=by
 refine Pure.of_c2 follows J4 (br rfl) ?_;simp only [b14,aU];have hp:=Fk c a b v w hc hl ha hb hv hw;have hbo:=v6 b hb;rw [he] at hbo;dsimp only at hbo;have heq:=IV a a ha ha;rw [bt rfl] at heq;have z0:decide ((0:Int) ≠ 0)=false:=rfl;have hal:=ha.1;have hbl:=hb.1;by_cases h1:a=[]
 ·have z1:decide ((0:Int) < a.length)=false:=by rw [h1]; rfl
  have zz:=aI @z0 (aI @z1 (aI @au (aI @ao @aj))); repeat' (first|refine zW ?_|apply a_n|refine zO ?_|refine vY ?_|refine cY ?_ (hp:=by first | exact hp | exact hbo | exact heq) (hs:=by (first | refine af ?_ rfl | apply ag); (repeat' (first | exact ac | apply an | apply ah | exact aV _ | exact aW _ | exact Dat.func DatL.nil)); first | done | fail)|refine bxY ?_|refine gFY ?_|refine cFY ?_|refine ak rfl ?_|refine r1Y ?_|fail)
  exact .int _ _
 have z1:decide ((0:Int) < a.length)=true:=bt (by have:=nB.2 h1; omega);by_cases h2:b=[]
 ·have z2:decide ((0:Int) < b.length)=false:=by rw [h2]; rfl
  have zz:=aI @z0 (aI @z1 (aI @z2 (aI @au (aI @ao @aj)))); repeat' (first|refine zW ?_|apply a_n|refine zO ?_|refine vY ?_|refine cY ?_ (hp:=by first | exact hp | exact hbo | exact heq) (hs:=by (first | refine af ?_ rfl | apply ag); (repeat' (first | exact ac | apply an | apply ah | exact aV _ | exact aW _ | exact Dat.func DatL.nil)); first | done | fail)|refine bxY ?_|refine gTY ?_|refine gFY ?_|refine cFY ?_|refine ak rfl ?_|refine r1Y ?_|fail)
  exact .int _ _
 have z2:decide ((0:Int) < b.length)=true:=bt (by have:=nB.2 h2; omega);have ix:=EJ h1;have iy:=EJ h2;have hsa:=ha.2 _ (aE (nB.2 h1));have hsb:=hb.2 _ (aE (nB.2 h2));have hd:=hd h1 h2;generalize a.getD 0 default=s at *;generalize b.getD 0 default=t at *;have hsa':s.length ≤ 17592186044416:=hsa;have z3:decide ((t.length:Int) ≠ (s.length:Int) + 1)=false:=bj (by omega);have zz:=aI @z0 (aI @z1 (aI @z2 (aI @z3 (aI @ix (aI @iy (aI @au (aI @ao (aI @aj @az)))))))); repeat' (first|refine zW ?_|apply a_n|refine zO ?_|refine vY ?_|refine cY ?_ (hp:=by first | exact hp | exact hbo | exact heq) (hs:=by (first | refine af ?_ rfl | apply ag); (repeat' (first | exact ac | apply an | apply ah | exact aV _ | exact aW _ | exact Dat.func DatL.nil)); first | done | fail)|refine bxY ?_|refine gTY ?_|refine cFY ?_|refine ak rfl ?_|refine r1Y ?_|fail)
 exact .int _ _
end Go.Proofs.YtlodfaaceehfmaaGreat
namespace Go.Proofs.YtlodfaaceehfmaaGreat
open Go Go.Abs
theorem Bg {c:List Spx}:∀ {k:Nat},k ≤ c.length→∀ i,i < k→((c.getD i default).length:Int) ≤ (lO c k).2
 | 0,_,i,hi=>absurd hi (by omega)
 | k + 1,hk,i,hi=>by
  unfold lO;dsimp only;rcases (by omega:i < k ∨ i=k) with h | rfl
  ·have:=Bg (c:=c) (k:=k) (by omega) i h; omega
  ·omega
theorem wU {c:List Spx} {m k:Nat} (hm:iT c=m) (hk:m < k):fV c k=[]:=by
 refine tI.2 fun s hs=>?_;obtain ⟨t,ht,h⟩:=rh.1 hs;obtain ⟨h1,h2⟩:=eb.1 h;have h3:=h1.length_le;obtain ⟨i,hi,e⟩:=jW ht;have h4:=Bg (c:=c) (aP _) i hi;rw [show c.getD i default=t by simp [List.getD,hi,e]] at h4;unfold iT at hm;omega
theorem uC {c:List Spx} {n:Nat}:aD c ((n:Int) + 1)=fV c (n + 1):=by
 have:=xo (c:=c) (k:=n + 1);rw [if_neg (by omega)] at this;exact this
theorem Gz {c:List Spx}:rkF c 0=0:=by
 have h:aD c ((0:Nat):Int)=[]:=by rw [xo,if_pos rfl]
 unfold rkF r8 gY;rw [h];have e:dQ (aD c (((0:Nat):Int) + 1)) []=[]:=rfl;rw [e,bO]
 have:∀ n,(kj (stE [] ([]:List (List Int)).length).1 n).length=0:=fun n=>by
  induction n with
  | zero=>rfl
  | succ n ih =>
   rw [mf,dr,ih]; rfl
 exact this _
theorem AO {c:List Spx} {m k:Nat} (hm:iT c=m) (hk:m ≤ k):rkF c k=0:=by
 have:=sC (c:=c) (d:=k);rw [uC,wU hm (by omega)] at this;simpa using this
def sG (c:List Spx):Nat→Int
 | 0=>0
 | n + 1=>if n % 2=0 then sG c n + btF c n else sG c n - btF c n
theorem wa {c:List Spx}:∀ n,sG c n=if n % 2=0 then ir c n + (rkF c n:Int) else ir c n - (rkF c n:Int)
 | 0=>by rw [Gz]; rfl
 | n + 1=>by
  have ih:=wa (c:=c) n;have hb:btF c n=((fV c (n + 1)).length:Int) - (rkF c n:Int) - (rkF c (n + 1):Int):=by unfold btF; rw [uC]
  unfold sG ir;rw [hb,ih];by_cases h:n % 2=0
  ·rw [if_pos h,if_pos h,if_neg (by omega),if_pos (by omega)]; omega
  ·rw [if_neg h,if_neg h,if_pos (by omega),if_neg (by omega)]; omega
theorem xL {c:List Spx} {m:Nat} (hm:iT c=m):∀ k,ir c (m + k)=ir c m
 | 0=>rfl
 | k + 1=>by
  have ih:=xL hm k;have e:ir c (m + (k + 1))=if (m + k + 1) % 2=1 then ir c (m + k) + ((fV c (m + k + 1)).length:Int) else ir c (m + k) - ((fV c (m + k + 1)).length:Int):=rfl
  rw [e,wU hm (by omega),ih];split <;> simp
theorem Bs {c:List Spx} {m:Nat} (hm:iT c=m) (hm8:m ≤ 8):sG c m=ir c 8:=by
 have h1:=xL hm (8 - m);rw [show m + (8 - m)=8 by omega] at h1;rw [h1,wa,AO hm (aP _)];split <;> simp
theorem iS {b:List Int}:∀ {a:List Int},bL (fun j=>bit j b) a=(a.filter fun x=>decide (x ∈ b)).length
 | []=>rfl
 | x :: a=>by
  have ih:=iS (b:=b) (a:=a);show bit x b + bL _ a=_;rw [ih];by_cases h:x ∈ b
  ·rw [D8 (by simpa using h),bN]; unfold bit; rw [if_pos h]; omega
  ·rw [DF (by simpa using h)]; unfold bit; rw [if_neg h]; omega
theorem rE {a b:List Int} (ha:bw a) (hb:bw b):i9 a b=ll b a:=by
 unfold i9 ll;have:=lQ _ a b (aP _) ha hb;rw [iS];refine decide_eq_decide.2 ?_;omega
theorem uh {a b:List Int} (ha:bw a) (hb:bw b):ll a b=ll b a:=by
 unfold ll;rw [iS,iS,qt (a:=b) (b:=a) hb.nodup ha.nodup]
theorem lF {g:Int→Nat} {b:List Int}:∀ {a:List Int},bL g (a ++ b)=bL g a + bL g b
 | []=>by show _=0 + _; rw [cb]; rfl
 | x :: a=>by
  have ih:=lF (g:=g) (b:=b) (a:=a);show g x + bL g (a ++ b)=g x + bL g a + bL g b;rw [ih]; omega
theorem l7 {g:Int→Nat}:∀ {a:List Int},(∀ z ∈ a,g z=0)→bL g a=0
 | [],_=>rfl
 | x :: a,h=>by
  show g x + bL g a=0;rw [h x di,l7 fun z hz=>h z (d6 _ hz)]
theorem wM {g h:Int→Nat}:∀ {a:List Int},bL (fun z=>g z + h z) a=bL g a + bL h a
 | []=>rfl
 | x :: a=>by
  have ih:=wM (g:=g) (h:=h) (a:=a);show g x + h x + bL _ a=g x + bL g a + (h x + bL h a);rw [ih]; omega
theorem uc {f:Int→Int→Nat} {v:List Int}:∀ {y:List Int},bL (fun j=>bL (fun z=>f z j) v) y=bL (fun z=>bL (fun j=>f z j) y) v
 | []=>by
  exact (l7 (g:=fun z=>bL (fun j=>f z j) []) fun z _=>rfl).symm
 | j :: y=>by
  have ih:=uc (f:=f) (v:=v) (y:=y);show bL (fun z=>f z j) v + bL _ y=bL (fun z=>f z j + bL (fun j=>f z j) y) v;rw [ih,wM]
theorem re {g h:Int→Nat}:∀ {a:List Int},(∀ z ∈ a,g z % 2=h z % 2)→bL g a % 2=bL h a % 2
 | [],_=>rfl
 | x :: a,e=>by
  have ih:=re (g:=g) (h:=h) (a:=a) fun z hz=>e z (d6 _ hz);have h0:=e x di;show (g x + bL g a) % 2=(h x + bL h a) % 2;omega
theorem ua {R:List (List Int)} {v:List Int} (hR:∀ r ∈ R,bw r) (hv:bw v) {i:Nat} (hi:i < R.length):bit (i:Int) (bF (cU R v))=bL (fun z=>bit z (R.getD i default)) v % 2:=by
 have h1:(i:Int) ∈ bF (cU R v) ↔ i9 (R.getD i default) v=true:=by
  rw [lP];unfold cU;constructor
  ·rintro ⟨j,hj,e⟩;obtain rfl:j=i:=by omega
   exact (gW.1 hj).2
  ·intro h;exact ⟨i,gW.2 ⟨ew.2 hi,h⟩,rfl⟩
 have hri:=hR _ (aE hi);rw [rE hri hv,uh hv hri] at h1;unfold ll at h1;have hb:bit (i:Int) (bF (cU R v))=if (i:Int) ∈ bF (cU R v) then 1 else 0:=rfl
 rw [hb];by_cases h:(i:Int) ∈ bF (cU R v)
 ·rw [if_pos h];have:=wr (h1.1 h);exact this.symm
 ·rw [if_neg h];have:¬ _:=fun q=>h (h1.2 (bt q));have h2:=Nat.mod_lt (bL (fun z=>bit z (R.getD i default)) v) (by omega:0 < 2);omega
theorem Ea {R:List (List Int)} {v:List Int} (hR:∀ r ∈ R,bw r) (hv:bw v) {y:List Int} (hy:y ∈ (stE R R.length).2):ll (bF (cU R v)) y=false:=by
 have hs:=(fZ hR (aP R.length)).dep y hy;obtain ⟨_,h2,h3⟩:=hs
 have h2:∀ z,0=bL (fun j=>bit z (R.getD j.toNat default)) y % 2:=fun z=>by
  have:=h2 z;rw [show bit z (([],y):Ln).1=0 from kf] at this;exact this
 have h3:∀ j ∈ y,0 ≤ j∧j < (R.length:Int):=h3;unfold ll;refine bj fun h=>?_
 have e1:bL (fun j=>bit j (bF (cU R v))) y % 2=bL (fun j=>bL (fun z=>bit z (R.getD j.toNat default)) v) y % 2:=re fun j hj=>by
  have hj':=h3 j hj;have:=ua hR hv (i:=j.toNat) (by omega);rw [show ((j.toNat:Nat):Int)=j by omega] at this;rw [this]; omega
 rw [uc (f:=fun z j=>bit z (R.getD j.toNat default))] at e1;have e2:bL (fun z=>bL (fun j=>bit z (R.getD j.toNat default)) y) v % 2=bL (fun _=>0) v % 2:=re fun z _=>by have:=h2 z; omega
 rw [l7 (g:=fun _=>0) fun _ _=>rfl] at e2;omega
theorem yd {L:List Ln} {w:List Int} {z:Int}:z ∈ gP L w ↔ ∃ l ∈ L,i9 l.2 w=true∧ld l.1=z:=by
 unfold gP;simp only [bP,gW];exact ⟨fun ⟨l,⟨h1,h2⟩,h3⟩=>⟨l,h1,h2,h3⟩,fun ⟨l,h1,h2,h3⟩=>⟨l,⟨h1,h2⟩,h3⟩⟩
theorem EP {L:List Ln} {w:List Int}:(gP L w).length ≤ L.length:=by
 unfold gP;rw [bO];exact List.length_filter_le _ _
theorem xE {M:List Ln} {c:Nat} {w:List Int} (hM:RedU M):bw (gP (kj M c) w):=by
 unfold gP bw;rw [List.pairwise_map];exact (nT hM).sublist yR
theorem wV {M:List Ln} {c:Nat} {w:List Int} (hM:RedU M):∀ z ∈ gP (kj M c) w,0 ≤ z∧z < (c:Int):=fun z hz=>by
 obtain ⟨l,h1,_,rfl⟩:=yd.1 hz;exact ((oV hM).1 h1).2
theorem CJ {R:List (List Int)} {c:Nat} {w:List Int} (hR:∀ r ∈ R,bw r) (hv:∀ r ∈ R,∀ z ∈ r,0 ≤ z∧z < (c:Int)) (hw:bw w) (h0:∀ y ∈ (stE R R.length).2,ll w y=false) {i:Nat} (hi:i < R.length):bL (fun z=>bit z (gP (gY R c) w)) (R.getD i default) % 2=bit (i:Int) w:=by
 have hsy:=BQ hR hv h0;obtain ⟨w1,w2,w3⟩:=ny (b:=w) hR hv;obtain ⟨e1,e2,e3⟩:=pK w1 w2;rw [xt w1 w2] at hsy;have hs:=fZ hR (aP R.length);have hM:=hs.red;have d3:=(pK hR hv).2.2;have hlv:∀ l ∈ (stE R R.length).1,∀ z ∈ l.1,0 ≤ z∧z < (c:Int):=fun l hl=>oH hR hv (kg (fun r hr=>jZ hr) (hs.inS l hl))
 have hxm:∀ z,z ∈ gP (gY R c) w ↔ ∃ l ∈ (stE R R.length).1,i9 l.2 w=true∧ld l.1=z:=fun z=>by
  rw [yd];exact ⟨fun ⟨l,h1,h2⟩=>⟨l,(d3 l).1 h1,h2⟩,fun ⟨l,h1,h2⟩=>⟨l,(d3 l).2 h1,h2⟩⟩
 have hxc:∀ z ∈ gP (gY R c) w,z < (c:Int):=fun z hz=>(wV hM z hz).2;generalize gP (gY R c) w=x at *
 have hgz:∀ z:Int,z < (c:Int)→bit z (x ++ [(c:Int)])=bit z x:=fun z hz=>by
  unfold bit;by_cases h:z ∈ x
  ·rw [if_pos h,if_pos (fp.2 (.inl h))]
  ·rw [if_neg h,if_neg fun q=>by
     rcases fp.1 q with q | q
     ·exact h q
     ·have:=dL.1 q; omega]
 have hgc:bit (c:Int) (x ++ [(c:Int)])=1:=dP.2 (fp.2 (.inr (dL.2 rfl)));have hwi:(kC R c w).getD i default ∈ kC R c w:=aE (by unfold kC; simpa using hi);have hsp:=(e2 _).2 (fe hwi);rw [hsy,yi hi] at hsp
 have hz:=Bd (g:=fun z=>bit z (x ++ [(c:Int)])) hsp fun d hd=>by
  obtain ⟨l,hl,rfl⟩:=bP.1 hd;have hl:=(d3 l).1 hl;have hla:=hM.asc l hl;have hne:=hM.ne l hl;have hsame:∀ l' ∈ (stE R R.length).1,ld l'.1 ∈ l.1→l=l':=fun l' hl' h=>hM.own l' hl' l hl h;have hlc:=hlv l hl
  have hld:bL (fun z=>bit z (x ++ [(c:Int)])) l.1=bit (ld l.1) x:=by
   have hldm:=de hne;cases hq:l.1 with
   | nil=>exact absurd hq hne
   | cons z t =>
    rw [hq] at hldm hsame hlc hla;have hz:ld (z :: t)=z:=rfl;rw [hz];show bit z (x ++ [(c:Int)]) + bL _ t=_;rw [hgz z (hlc z di).2,l7 (a:=t) fun u hu=>?_]
    ·omega
    ·have huc:=hlc u (d6 _ hu);rw [hgz u huc.2];unfold bit;rw [if_neg fun hux=>?_];obtain ⟨l',h1,_,h3⟩:=(hxm u).1 hux;have h4:=hsame l' h1 (by rw [h3]; exact d6 _ hu);have h5:=(gS.1 hla.1).1 u hu;rw [← h4,hq] at h3;have:ld (z :: t)=z:=rfl;omega
  have hbx:bit (ld l.1) x=if ll w l.2=true then 1 else 0:=by
   rw [← rE hla.2 hw];unfold bit;by_cases h:i9 l.2 w=true
   ·rw [if_pos ((hxm _).2 ⟨l,hl,h,rfl⟩),if_pos h]
   ·rw [if_neg fun q=>?_,if_neg h];obtain ⟨l',h1,h2,h3⟩:=(hxm _).1 q;have:=hsame l' h1 (by rw [h3]; exact de hne);rw [this] at h;exact h h2
  unfold wdL;by_cases h:ll w l.2=true
  ·rw [if_pos h,lF,hld,hbx,if_pos h];show (1 + (bit (c:Int) (x ++ [(c:Int)]) + 0)) % 2=0;rw [hgc]
  ·rw [if_neg h,hld,hbx,if_neg h]
 have hri:=hv _ (aE hi);have hcg:bL (fun z=>bit z (x ++ [(c:Int)])) (R.getD i default)=bL (fun z=>bit z x) (R.getD i default):=jX fun z hz=>hgz z (hri z hz).2;unfold wdR at hz;by_cases h:(i:Int) ∈ w
 ·rw [if_pos h,lF,hcg] at hz;have hz:(bL (fun z=>bit z x) (R.getD i default) + (bit (c:Int) (x ++ [(c:Int)]) + 0)) % 2=0:=hz;rw [hgc] at hz;unfold bit at hz ⊢;rw [if_pos h];omega
 ·rw [if_neg h,hcg] at hz;unfold bit at hz ⊢;rw [if_neg h];exact hz
theorem BM {R:List (List Int)} {c:Nat} {v:List Int} (hR:∀ r ∈ R,bw r) (hr:∀ r ∈ R,∀ z ∈ r,0 ≤ z∧z < (c:Int)) (hv:bw v):Aa R c (bF (cU R v))=(gP (gY R c) (bF (cU R v)),[],true)∧cU R (gP (gY R c) (bF (cU R v)))=cU R v:=by
 have hwa:bw (bF (cU R v)):=ec (List.pairwise_lt_range.sublist yR);have h0:∀ y ∈ (stE R R.length).2,ll (bF (cU R v)) y=false:=fun y hy=>Ea hR hv hy;have hs:=fZ hR (aP R.length);refine ⟨?_,?_⟩
 ·have:F6 (stE R R.length).2 (bF (cU R v))=none:=by
    refine List.find?_eq_none.2 fun y hy=>?_;rw [rE (hs.dep y hy).1.2 hwa,h0 y hy];decide
  unfold Aa;rw [this]
 ·have hxa:bw (gP (gY R c) (bF (cU R v))):=xE hs.red;have hright:=fun i (hi:i < R.length)=>CJ hR hr hwa h0 hi;have hbit:=fun i (hi:i < R.length)=>ua hR hv hi;generalize gP (gY R c) (bF (cU R v))=x at *;refine List.filter_congr fun i hi=>?_;have hi:=ew.1 hi;have hri:=hR _ (aE hi);have h1:=hright i hi;have h2:=hbit i hi;rw [h2] at h1;rw [rE hri hxa,rE hri hv,uh hv hri];unfold ll;rw [h1]
def Ir:List (Nat × F2):=[(15,b15),(21,b21),(38,b38),(39,b39),(45,b45),(46,b46),(47,b47),(48,b48),(57,b57),(62,b62),(63,b63),(64,b64),(65,b65),(66,b66),(72,b72),(73,b73),(74,b74),(76,b76),(77,b77),(79,b79),(85,b85),(86,b86),(87,b87),(88,b88),(89,b89),(90,b90),(91,b91),(92,b92),(93,b93),(94,b94),(95,b95),(96,b96),(106,FR),(108,GR),(109,I3),(110,HZ)]
theorem Ib:lj Tryz.prog (lookup Ir) :=
 (a5 JZ (a5 HQ (a5 HR (a5 KD (a5 HW (a5 HX (a5 Jo (a5 Jw (a5 Ht (a5 Ia (a5 Iw (a5 JF (a5 JR (a5 Kz (a5 IY (a5 IB (a5 H7 (a5 IS (a5 IZ (a5 GW (a5 Jp (a5 Io (a5 J6 (a5 JO (a5 J8 (a5 Kj (a5 Kl (a5 Kn (a5 I8 (a5 Ic (a5 Jh (a5 Hn (a5 Ek (a5 GB (a5 Ii (a5 IE BF))))))))))))))))))))))))))))))))))))
def HL:AV:=.agg [.sl 1 [.sl 2 [.agg [.int .i64 0,.int .i64 0],.agg [.int .i64 1,.int .i64 0]],.sl 2 [.agg [.int .i64 0,.int .i64 0],.agg [.int .i64 2,.int .i64 0]],.sl 2 [.agg [.int .i64 1,.int .i64 0],.agg [.int .i64 2,.int .i64 0]]]]
set_option maxRecDepth 100000 in
theorem GU:Go.Abs.Pure Tryz.prog 15 [HL] (.tup [.esl,.int .i64 0]):=Pure.of_run follows Ib (pf:=Gq []) (n:=2000) (good:=qL 5 (.tup [.esl,.int .i64 0])) (by decide +kernel) (fun x h=>(vq 5 _ _ h).symm)
def tF:List Spx:=[GC [0,1],GC [0,2],GC [1,2]]
theorem yS:Pure Tryz.prog 6 [dl tF] (.tup [aL [1,1],.int .i64 0]):=by
 have h:=yN tF 2 (by decide +kernel) (by decide) (by decide +kernel) (by decide)
 rwa [show btL tF 2=[1,1] by decide +kernel] at h
theorem BW:Pure Tryz.prog 15 [dl tF] (.tup [.esl,.int .i64 0]):=GU
theorem HC {H:Hp} {b1 b2 b3 c:Nat} {c1 c2 c3:List AV} {x y:AV} (h1:H b1=some c1) (h2:H b2=some c2) (h3:H b3=some c3) (hc:H c=some [x]) (n1:c ≠ b1) (n2:c ≠ b2) (n3:c ≠ b3) (hs:Snap (on3 b1 c1 b2 c2 b3 c3) x y):Fz (on3 b1 c1 b2 c2 b3 c3) H (only c [y]) where
 sub:=fun b cs h=>by
  unfold on3 at h;split at h
  ·rename_i e; rw [e,h1]; exact h
  ·split at h
   ·rename_i e; rw [e,h2]; exact h
   ·split at h
    ·rename_i e; rw [e,h3]; exact h
    ·cases h
 to:=fun a cs' h=>by
  unfold only at h;split at h
  ·rename_i e;cases h;refine ⟨[x],by rw [e]; exact hc,?_,rfl,fun i u v hu hv=>?_⟩
   ·unfold on3; rw [e,if_neg n1,if_neg n2,if_neg n3]
   ·match i with
    | 0=>simp at hu hv; subst hu; subst hv; exact .inr hs
    | i + 1=>simp at hu
  ·cases h
theorem B4:Snap (on3 0 [.int .i64 0,.int .i64 0,.int .i64 1,.int .i64 0,.int .i64 2,.int .i64 0] 1 [.int .i64 0,.int .i64 0,.int .i64 2,.int .i64 0] 2 [.msl 0 6 2 0 2,.msl 1 4 2 0 2,.msl 0 6 2 2 2]) (.msl 2 3 1 0 3) (aC tF) :=
 dz (fun _ _ h=>h) 10 (by rfl)
theorem Fo:Pure Tryz.prog 16 [aL [1,1],aL [1,1]] (.bool true):=by
 have:=EM [1,1] [1,1] (by decide) (by decide)
 rwa [bt rfl] at this
attribute [local irreducible] aM am bm be aX a6 aG aZ bf bI Go.Abs.Fn bc Go.Abs.Pure aB aQ Yl
theorem lf:Pure Tryz.prog 4 [] (.bool true):=by
 refine Pure.of_c2 follows is4 (br rfl) ?_;simp only [b4,aU];have s1:kN 2 (.msl 0 6 2 0 3) none (some (.int .i64 2)) none=some (.msl 0 6 2 0 2):=rfl;have s2:kN 2 (.msl 0 6 2 0 3) (some (.int .i64 1)) none none=some (.msl 0 6 2 2 2):=rfl;refine dt ?_
 repeat' (first|apply a_n|refine zO ?_|refine vY ?_|fail)
 refine dt ?_
 repeat' (first|apply a_n|refine zO ?_|refine vY ?_|refine blY ?_|fail)
 refine dt ?_;have zz:=aI @s1 @s2; repeat' (first|apply a_n|refine zO ?_|refine vY ?_|fail)
 refine kw (r:=.agg [.int .i64 0,.int .i64 0]) rfl rfl (by exact rfl) ?_;clear zz;have zz:=aI @s1 @s2; repeat' (first|apply a_n|refine zO ?_|refine vY ?_|fail)
 refine kw (r:=.agg [.int .i64 2,.int .i64 0]) rfl rfl (by exact rfl) ?_;clear zz;have zz:=aI @s1 @s2; repeat' (first|apply a_n|refine zO ?_|refine vY ?_|refine alY ?_|refine stY ?_|refine blY ?_|fail)
 refine dt ?_;have h3:only 3 [aC tF] 3=some [aC tF]:=oS;have hcx:AV.agg [aC tF]=dl tF:=rfl;refine qY _ (only 3 [aC tF]) [(2,.ptr 3 1 0)] (HC (b1:=0) (b2:=1) (b3:=2) (c:=3) (by exact rfl) (by exact rfl) (by exact rfl) (by exact rfl) (by decide) (by decide) (by decide) B4) ⟨.inl rfl,trivial⟩ ?_;clear zz;have zz:=aI @h3 (aI @au @ao); repeat' (first|refine zW ?_|apply a_n|refine zO ?_|refine vY ?_|refine cY ?_ (hp:=by first | exact yS | exact BW) (hs:=by (first | refine af ?_ rfl | apply ag); (repeat' (first | exact ac | apply an | apply ah | exact aV _)); first | done | fail)|refine blY ?_|refine gTY ?_|(refine zGY ?_ ?_ <;> (intro _hg; try (exfalso; omega)))|fail)
 refine ie ev0 ev0 Fo (af (ar (bE _ _) (ar (th (b:=4) (n:=2) (len:=2) (l:=[1,1]) (by exact rfl) rfl rfl) ac)) rfl) ?_;clear zz;have zz:=@h3; repeat' (first|apply a_n|refine zO ?_|refine vY ?_|refine gTY ?_|refine ak rfl ?_|refine r1Y ?_|fail)
 exact cu rfl
end Go.Proofs.YtlodfaaceehfmaaGreat
namespace Go.Proofs.YtlodfaaceehfmaaGreat
open Go Go.Abs
theorem DP {n:Nat} {v:List Int}:jv n v=0 ∨ jv n v=2 ∨ jv n v=14:=by
 by_cases h:jv n v=0
 ·exact .inl h
 ·refine .inr ?_;unfold jv at h ⊢
  have:∀ m,db (nQ n v) m=0 ∨ db (nQ n v) m=2 ∨ db (nQ n v) m=14:=fun m=>by
   by_cases hall:∀ i,i < m→nQ n v i=0
   ·exact .inl (cT hall)
   ·have hex:∃ k,k < m∧nQ n v k ≠ 0∧∀ i,i < k→nQ n v i=0:=by
      refine Decidable.byContradiction fun hno=>hall fun i=>?_
      induction i using Nat.strongRecOn with
      | _ i ih =>
       intro hi;refine Decidable.byContradiction fun h0=>hno ⟨i,hi,h0,fun j hj=>ih j hj (by omega)⟩
    obtain ⟨k,k1,k2,k3⟩:=hex;rw [cL k1 k3 k2];rw [ns] at k2 ⊢;split
    ·exact .inr (.inl rfl)
    split
    ·exact .inr (.inr rfl)
    ·exact .inl rfl
  exact (this _).resolve_left h
theorem JD (m:Nat) {dm:Nat} (hm:0 < m):∀ tb tf,bh .rem tb tf (.int .u8 (dm:Int)) (.int .u8 (m:Int))=some (.int .u8 ((dm % m:Nat):Int)):=fun _ _=>(qR (by omega) (by omega)).trans (by rw [Int.natCast_emod])
theorem Je {q:Nat} (h:q < 4):IntKind.wrap .i64 (q:Int)=q:=by
 rcases (by omega:q=0 ∨ q=1 ∨ q=2 ∨ q=3) with rfl | rfl | rfl | rfl <;> decide
attribute [local irreducible] aM am bm be aX a6 aG aZ bf bI Go.Abs.Fn bc Go.Abs.Pure aB aQ Yl
end Go.Proofs.YtlodfaaceehfmaaGreat
namespace Go.Proofs.YtlodfaaceehfmaaGreat
open Go Go.Abs
theorem FE {n:Nat} {x:List Int} (ha:bw x) (hr:∀ z ∈ x,0 ≤ z∧z < (n:Int)):jv n x=0:=by
 unfold jv;refine cT fun k hk=>?_;rw [ns];have h1:=hr _ (aE hk);rw [if_neg (by omega),if_neg];rintro ⟨h0,h2⟩;have h3:=mQ.1 ha (k - 1) k (by omega) hk (by omega);have e1:x.getD k default=x[k]:=by simp [List.getD,hk]
 have e2:x.getD (k - 1) default=x[k - 1]:=by simp [List.getD,show k - 1 < x.length by omega]
 omega
theorem uW:∀ {a b:List Nat},bF a=bF b→a=b
 | [],[],_=>rfl
 | [],_ :: _,h=>by cases h
 | _ :: _,[],h=>by cases h
 | x :: a,y :: b,h=>by
  obtain ⟨h1,h2⟩:=List.cons.inj h;have h1:(x:Int)=(y:Int):=h1;rw [uW h2,show x=y by omega]
theorem xN {Y:List Spx}:∀ {a b:List Spx},(∀ s ∈ a,s ∈ Y)→(∀ s ∈ b,s ∈ Y)→pO Y a=pO Y b→a=b
 | [],[],_,_,_=>rfl
 | [],_ :: _,_,_,h=>by cases h
 | _ :: _,[],_,_,h=>by cases h
 | s :: a,t :: b,h1,h2,h=>by
  obtain ⟨e1,e2⟩:=List.cons.inj h;have i1:=pN.2 (h1 s di);have i2:=pN.2 (h2 t di);have g1:Y[Y.idxOf s]=s:=List.getElem_idxOf i1;have g2:Y[Y.idxOf t]=t:=List.getElem_idxOf i2
  have e3:s=t:=by
   rw [← g1,← g2]
   congr 1
  rw [e3,xN (fun u hu=>h1 u (d6 _ hu)) (fun u hu=>h2 u (d6 _ hu)) e2]
theorem Cy {c:List Spx} {d:Nat} {v:List Int} (hc:aO c=0) (hl:c.length ≤ 50) (hd:d < 7) (hv:v.length ≤ 40) (hn:(aD c ((d:Int) + 2)).length ≤ 400) (h:jv (aD c ((d:Int) + 2)).length v=0) :
    ∃ a b bb,ShC a∧ShC b∧ShC bb∧tv c ((d:Int) + 1) v=(a,0)∧iH a=(b,0)∧iH b=([],0)∧Pure Tryz.prog 13 [dl c,aC b] (.tup [aC bb,aC [],.bool true,.int .i64 0])∧Pure Tryz.prog 14 [dl c,aC b,aC bb] (.int .i64 0):=by
 have e1:((d + 1:Nat):Int) + 1=(d:Int) + 2:=by omega
 have e0:((d + 1:Nat):Int)=(d:Int) + 1:=by omega
 have F:∀ {x:List Int},x.length ≤ 400→jv (aD c ((d:Int) + 2)).length x=0→_:=fun {x} h1 h2=>tM (c:=c) (k:=d + 1) (v:=x) hc hl (by omega) h1 (by rw [e1]; exact h2);rw [e1,e0] at F;obtain ⟨a,b,k1,k2,k3,k4,k5,k6,k7,k8,j1,j2,j3,j4,j5,j6⟩:=F (by omega) h;have hss:=(nK k4).2
 have hva:bw v:=by
  obtain ⟨w0,rfl,hw0,_⟩:=Ai h;exact ec hw0
 have hbb:cp b=[]:=by rw [j1]; exact Co (fO hss.1)
 have hbT:iH b=([],0):=by
  unfold iH;rw [if_neg (fun q=>q j2),hbb,if_neg (by decide)]
 have hz:z9 b=(true,0):=by
  unfold z9;rw [if_neg (fun q=>q j2),bt hbb]
 by_cases hb0:b=[]
 ·subst hb0
  have v0:lG c []=([],0):=by
   unfold lG;rw [if_neg (fun q=>q hc),if_neg (fun q=>q rfl),if_pos rfl]
  exact ⟨a,[],[],k5,k6,k6,k1,k3,hbT,D4 c hc hl,uk c [] [] [] [] hc hl k6 k6 v0 v0 (fun q=>absurd rfl q) hbT⟩
 have hr1:=ez hc hl (d:=(d:Int) + 1);have hr2:=ez hc hl (d:=(d:Int) + 2);have hMV:=qU (X:=aD c ((d:Int) + 2)) (Y:=aD c ((d:Int) + 1)) (by omega) (by omega);have hMa:=s6 hMV;have hMr:∀ r ∈ dQ (aD c ((d:Int) + 2)) (aD c ((d:Int) + 1)),∀ z ∈ r,0 ≤ z∧z < ((aD c ((d:Int) + 2)).length:Int):=fun r hr z hz=>(hMV.2.2.2 r hr).1 z hz;have hMl:(dQ (aD c ((d:Int) + 2)) (aD c ((d:Int) + 1))).length=(aD c ((d:Int) + 1)).length:=nW;obtain ⟨s1,s2⟩:=BM hMa hMr hva;have hM:=(fZ hMa (aP _)).red;have hxl:(gP (gY (dQ (aD c ((d:Int) + 2)) (aD c ((d:Int) + 1))) (aD c ((d:Int) + 2)).length) (bF (cU (dQ (aD c ((d:Int) + 2)) (aD c ((d:Int) + 1))) v))).length ≤ 400:=fM EP (fM oZ hn);have hxe:=FE (n:=(aD c ((d:Int) + 2)).length) (xE (c:=(aD c ((d:Int) + 2)).length) (w:=bF (cU (dQ (aD c ((d:Int) + 2)) (aD c ((d:Int) + 1))) v)) hM) (wV hM);change jv _ (gP (gY _ _) _)=0 at hxe;have hwa:bw (bF (cU (dQ (aD c ((d:Int) + 2)) (aD c ((d:Int) + 1))) v)):=ec (List.pairwise_lt_range.sublist yR)
 have hwr:∀ z ∈ bF (cU (dQ (aD c ((d:Int) + 2)) (aD c ((d:Int) + 1))) v),0 ≤ z∧z < ((aD c ((d:Int) + 1)).length:Int):=fun z hz=>by
  obtain ⟨i,hi,rfl⟩:=lP.1 hz;have:=ew.1 (gW.1 hi).1;omega
 generalize gP (gY (dQ (aD c ((d:Int) + 2)) (aD c ((d:Int) + 1))) (aD c ((d:Int) + 2)).length) (bF (cU (dQ (aD c ((d:Int) + 2)) (aD c ((d:Int) + 1))) v))=x at *;obtain ⟨a2,b2,q1,q2,q3,q4,q5,q6,q7,q8,i1,i2,i3,i4,i5,i6⟩:=F hxl hxe;have hb2:b2=b:=xN i5 j5 (uW (by rw [← i6,← j6,s2]));rw [hb2] at q3;have hd1:(b.getD 0 default).length=d + 1:=j4 _ (aE (nB.2 hb0));refine ⟨a,b,a2,k5,k6,q5,k1,k3,hbT,Dq c b a2 d _ x hc hl k6 hb0 hd1 (by omega) k8 hz hwr hwa s1 (by omega) q1,uk c b a2 _ x hc hl k6 q5 k8 q2 (fun _ h2=>?_) q3⟩;rw [hd1,i3 _ (aE (nB.2 h2))]
end Go.Proofs.YtlodfaaceehfmaaGreat
namespace Go.Proofs.YtlodfaaceehfmaaGreat
open Go Go.Abs
open Nat (reduceEqDiff reduceAdd reduceLeDiff)
def mJ (c:List Spx):Nat→Nat
 | 0=>0
 | k + 1=>mJ c k + 2 ^ min (c.getD k default).length 10
theorem vH {c:List Spx}:∀ k,mJ c k ≤ 1024 * k
 | 0=>cf _
 | k + 1=>by
  have ih:=vH (c:=c) k;have:2 ^ min (c.getD k default).length 10 ≤ 2 ^ 10:=Nat.pow_le_pow_right (by omega) (by omega);unfold mJ;omega
theorem so:∀ {l:Spx} {k:Nat},(cC l k).length ≤ 2 ^ l.length
 | l,0=>by rw [nA]; exact Nat.one_le_two_pow
 | [],k + 1=>by rw [sj]; simp
 | x :: l,k + 1=>by
  have h1:=so (l:=l) (k:=k);have h2:=so (l:=l) (k:=k + 1);rw [go,dr,bO,bN,Nat.pow_succ];omega
theorem Dh {c:List Spx} {n:Nat} (h8:∀ s ∈ c,s.length ≤ 8):∀ k,k ≤ c.length→((c.take k).flatMap fun s=>cC s n).length ≤ mJ c k
 | 0,_=>by simp
 | k + 1,hk=>by
  have ih:=Dh (n:=n) h8 k (by omega);have h1:=h8 _ (aE (l:=c) (i:=k) (by omega));have h2:=so (l:=c.getD k default) (k:=n);rw [dE (show k < c.length by omega),List.flatMap_append,dr];unfold mJ;rw [Nat.min_eq_left (by omega)];simp only [tR,List.flatMap_nil,jH];omega
theorem EV {c:List Spx} (hc:aO c=0) {d:Int}:(aD c d).length ≤ mJ c c.length:=by
 unfold aD;split
 ·simp
 ·unfold fV;have h:=Dh (c:=c) (n:=d.toNat) (fun s hs=>(cV ((dq hc).2.1 s hs)).2.1) c.length (aP _);rw [List.take_length] at h;exact fM xJ h
def wZ (c:List Spx):Bool:=md c && (decide (mJ c c.length ≤ 300) && decide (aO c=0))
attribute [local irreducible] aM am bm be aX a6 aG aZ bf bI Go.Abs.Fn bc Go.Abs.Pure aB aQ Yl
theorem Hq (c:List Spx) (hc:Shn c) (hs:∀ s ∈ c,Shn s):Pure Tryz.prog 5 [dl c] (.bool (wZ c)):=by
 refine Pure.of_c2 follows is5 (br rfl) ?_;simp only [b5,aU];have hc':c.length ≤ 17592186044416:=hc;have f1:=E8 c hc hs;have f2:=Ft c hc hs;have zz:=aI @au (aI @ao @aj); repeat' (first|refine zW ?_|apply a_n|refine zO ?_|refine vY ?_|refine bxY ?_|fail)
 refine bC (X:=Nat) (fun k=>[(1,.ptr 0 1 0),(3,.int .i64 (mJ c k)),(7,aC c),(8,.int .i64 c.length),(9,.int .i64 k)]) (fun k H nx=>k ≤ c.length∧H 0=some [aC c]) (fun k=>c.length - k) 0 ⟨cf _,rfl⟩ (by (iterate 5 refine And.intro rfl ?_); trivial) ?_;rintro k H nx ⟨g1,g2⟩;have hb:=vH (c:=c) k;by_cases hk:k < c.length
 ·have ix:=fq hk;have hsl:(c.getD k default).length ≤ 17592186044416:=hs _ (aE hk);have hb2:=vH (c:=c) (k + 1);have hfs:mJ c (k + 1)=mJ c k + 2 ^ min (c.getD k default).length 10:=rfl
  have hsh:∀ tb tf,bh .shl tb tf (.int .i64 1) (.int .i64 (min ((c.getD k default).length:Int) 10))=some (.int .i64 ((2 ^ min (c.getD k default).length 10:Nat):Int)):=fun tb tf=>by
   have h1:min ((c.getD k default).length:Int) 10=((min (c.getD k default).length 10:Nat):Int):=by omega
   have h2:2 ^ min (c.getD k default).length 10 ≤ 2 ^ 10:=Nat.pow_le_pow_right (by omega) (by omega);rw [h1];have:=AK (k:=.i64) (k':=.i64) (a:=1) (b:=min (c.getD k default).length 10) (tb:=tb) (tf:=tf) (by show _ ≤ 64; omega) (by show 1 * _ < 2 ^ 63; omega);rw [Nat.one_mul] at this;exact this
  rw [hfs] at hb2;generalize 2 ^ min (c.getD k default).length 10=P at *;generalize c.getD k default=s at *;have hce:((mJ c (k + 1):Nat):Int)=(mJ c k:Int) + (P:Int):=by rw [hfs]; omega
  clear zz;have zz:=aI @ix (aI @az @hsh); repeat' (first|refine zW ?_|apply a_n|refine zO ?_|refine vY ?_|(refine zGY ?_ ?_ <;> (intro _hg; try (exfalso; omega)))|fail)
  exact ⟨k + 1,by omega,⟨by omega,g2⟩,by rw [hce]; simp (disch:=omega) only [agr,ZG,reduceEqDiff,↓reduceIte]⟩
 obtain rfl:k=c.length:=by omega
 unfold wZ;cases e1:md c
 ·rw [e1] at f1;rw [Bool.false_and];clear zz;have zz:=aI @g2 (aI @au @ao); repeat' (first|refine zW ?_|apply a_n|apply a_x|refine zO ?_|refine vY ?_|refine cY ?_ (hp:=f1) (hs:=by (first | refine af ?_ rfl | apply ag); (repeat' (first | exact ac | apply an | apply ah | exact aV _)); first | done | fail)|refine gFY ?_|(refine zGY ?_ ?_ <;> (intro _hg; try (exfalso; omega)))|refine ak rfl ?_|refine r1Y ?_|fail)
  exact .bool _
 rw [e1] at f1;rw [Bool.true_and];by_cases h3:mJ c c.length ≤ 300
 ·have z:decide ((mJ c c.length:Int) ≤ 300)=true:=bt (by omega);rw [bt h3,Bool.true_and];clear zz;have zz:=aI @g2 (aI @z (aI @au @ao)); repeat' (first|refine zW ?_|apply a_n|apply a_x|refine zO ?_|refine vY ?_|refine cY ?_ (hp:=by first | exact f1 | exact f2) (hs:=by (first | refine af ?_ rfl | apply ag); (repeat' (first | exact ac | apply an | apply ah | exact aV _)); first | done | fail)|refine gTY ?_|(refine zGY ?_ ?_ <;> (intro _hg; try (exfalso; omega)))|refine ak rfl ?_|refine r1Y ?_|fail)
  exact .bool _
 ·have z:decide ((mJ c c.length:Int) ≤ 300)=false:=bj (by omega);rw [bj h3,Bool.false_and];clear zz;have zz:=aI @g2 (aI @z (aI @au @ao)); repeat' (first|refine zW ?_|apply a_n|apply a_x|refine zO ?_|refine vY ?_|refine cY ?_ (hp:=f1) (hs:=by (first | refine af ?_ rfl | apply ag); (repeat' (first | exact ac | apply an | apply ah | exact aV _)); first | done | fail)|refine gTY ?_|refine gFY ?_|(refine zGY ?_ ?_ <;> (intro _hg; try (exfalso; omega)))|refine ak rfl ?_|refine r1Y ?_|fail)
  exact .bool _
end Go.Proofs.YtlodfaaceehfmaaGreat
namespace Go.Proofs.YtlodfaaceehfmaaGreat
open Go Go.Abs
open Nat (reduceEqDiff reduceAdd reduceLeDiff)
theorem Du {c:List Spx} (h:wZ c=true):c.length ≤ 30∧mJ c c.length ≤ 300∧aO c=0:=by
 unfold wZ md at h;simp only [dS,gJ] at h;exact ⟨h.1.1,h.2.1,h.2.2⟩
theorem Fd {c:List Spx} {m k:Nat} (h:k < m):(btL c m).getD k default=btF c k:=by unfold btL; simp [List.getD,h]
theorem Bh {c:List Spx} (hc:aO c=0) (hl:c.length ≤ 50) {k:Nat} (hk:k ≤ 8):-40000 ≤ sG c k∧sG c k ≤ 40000:=by
 have h1:=vP (c:=c) (fun j=>kO (k:=j) hl fun s hs=>(cV ((dq hc).2.1 s hs)).2.1) k;have h2:=sC (c:=c) (d:=k);have h3:=ez hc hl (d:=(k:Int) + 1);rw [wa];split <;> omega
theorem Bc {c:List Spx} {d:Nat} (hc:aO c=0) (hl:c.length ≤ 50) (hd:d < 8):Pure Tryz.prog 9 [dl c,.int .i64 d] (.tup [eJ (aD c ((d:Int) + 1)).length (dQ (aD c ((d:Int) + 1)) (aD c d)),.int .i64 0]):=by
 have hm:=EX c d hl (jh hc)
 have e:lg c d=(((((aD c ((d:Int) + 1)).length:Nat):Int),dQ (aD c ((d:Int) + 1)) (aD c d)),0):=by
  unfold lg;rw [if_neg (fun q=>q hc),if_neg (by omega)]
 rwa [e] at hm
theorem AB {c:List Spx} {d:Nat} (hc:aO c=0) (hl:c.length ≤ 50):Pure Tryz.prog 10 [eJ (aD c ((d:Int) + 1)).length (dQ (aD c ((d:Int) + 1)) (aD c d))] (.tup [.int .i64 (rkF c d),.int .i64 0]) :=
 zS _ _ (qU (by have:=ez hc hl (d:=(d:Int) + 1); omega) (by have:=ez hc hl (d:=(d:Int)); omega))
theorem DG:Pure Tryz.prog 10 [eJ 0 []] (.tup [.int .i64 0,.int .i64 0]):=zS 0 [] ⟨by decide,by decide,by decide,fun r h=>(by cases h)⟩
attribute [local irreducible] aM am bm be aX a6 aG aZ bf bI Go.Abs.Fn bc Go.Abs.Pure aB aQ Yl
set_option maxHeartbeats 2000000 in
theorem Ee (c:List Spx) (dm:Nat) (v:List Int) (hc:Shn c∧∀ s ∈ c,Shn s) (hd:dm < 256) (hv:Shn v):Pure Tryz.prog 3 [dl c,.int .u8 dm,aL v] (.bool true):=by
 refine Pure.of_c2 follows is3 (br rfl) ?_;simp only [b3,aU];have hv':v.length ≤ 17592186044416:=hv;have hrem:=JD 3 (dm:=dm) (by omega);have hk3:dm % 3 < 3:=Nat.mod_lt _ (by omega);have hw:=Je (q:=dm % 3) (by omega);have e3:((3:Nat):Int)=3:=rfl;rw [e3] at hrem;generalize dm % 3=d at *;have hpl:=Hq c hc.1 hc.2;have z0:decide ((0:Int) ≠ 0)=false:=rfl;cases hp:wZ c
 ·rw [hp] at hpl;have zz:=aI @au (aI @ao (aI @hrem @hw)); repeat' (first|refine zW ?_|apply a_n|apply a_r|refine zO ?_|refine vY ?_|refine cY ?_ (hp:=by first | exact lf | exact hpl) (hs:=by (first | refine af ?_ rfl | apply ag); (repeat' (first | exact ac | apply an | apply ah | exact aV _)); first | done | fail)|refine bxY ?_|refine gFY ?_|refine cTY ?_|refine cFY ?_|refine ak rfl ?_|refine r1Y ?_|fail)
  exact .bool _
 rw [hp] at hpl;obtain ⟨p1,p2,p3⟩:=Du hp;by_cases hl:40 < v.length
 ·have z:decide ((40:Int) < v.length)=true:=bt (by omega);have zz:=aI @au (aI @ao (aI @hrem (aI @hw (aI @z @dX)))); repeat' (first|refine zW ?_|apply a_n|apply a_r|refine zO ?_|refine vY ?_|refine cY ?_ (hp:=by first | exact lf | exact hpl) (hs:=by (first | refine af ?_ rfl | apply ag); (repeat' (first | exact ac | apply an | apply ah | exact aV _)); first | done | fail)|refine bxY ?_|refine gTY ?_|refine cTY ?_|refine cFY ?_|refine ak rfl ?_|refine r1Y ?_|fail)
  exact .bool _
 have zl:decide ((40:Int) < v.length)=false:=bj (by omega);obtain ⟨m,hm,hm8⟩:=Dn p3;have hbt:=yN c m p3 (by omega) hm hm8;have heu:=wt c p3 (by omega);have hdi:=oq c p3 (by omega);rw [hm] at hdi;have hblen:(btL c m).length=m:=by unfold btL; simp
 refine dt ?_;have zz:=aI @au @ao; repeat' (first|apply a_n|refine zO ?_|refine vY ?_|refine bxY ?_|fail)
 refine dt ?_;clear zz;have zz:=aI @au (aI @ao (aI @hrem (aI @hw (aI @zl (aI @dX (aI @z0 @hblen)))))); repeat' (first|refine zW ?_|apply a_n|refine zO ?_|refine vY ?_|refine cY ?_ (hp:=by first | exact lf | exact hpl | exact hbt | exact heu | exact hdi) (hs:=by (first | refine af ?_ rfl | apply ag); (repeat' (first | exact ac | apply an | apply ah | exact aV _)); first | done | fail)|refine gTY ?_|refine cFY ?_|(refine zGY ?_ ?_ <;> (intro _hg; try (exfalso; omega)))|fail)
 refine bC (X:=Nat) (fun k=>[(2,aL v),(3,.ptr 0 1 0),(7,.int .i64 d),(8,aL (btL c m)),(10,.int .i64 (ir c 8)),(15,.int .i64 (sG c k)),(16,.int .i64 (rkF c k)),(79,.int .i64 m),(80,.int .i64 k)]) (fun k H nx=>k ≤ m∧1 ≤ nx∧H 0=some [aC c]) (fun k=>m - k) 0 ⟨cf _,aP _,rfl⟩ (by rw [show ((rkF c 0:Nat):Int)=0 by rw [Gz]; rfl]; (iterate 9 refine And.intro rfl ?_); trivial) ?_;rintro k H nx ⟨g1,gn,g2⟩;by_cases hk:k < m
 ·have hm1:=Bc (d:=k) p3 (by omega) (by omega);have hr1:=AB (c:=c) (d:=k) p3 (by omega);have ix:=ixV (l:=btL c m) (k:=k) (by omega);rw [Fd hk] at ix;have hbf:btF c k=((aD c ((k:Int) + 1)).length:Int) - (rkF c k:Int) - (rkF c (k + 1):Int):=rfl;have hb1:=Bh p3 (by omega) (k:=k) (by omega);have hb2:=Bh p3 (by omega) (k:=k + 1) (by omega);have has:sG c (k + 1)=if k % 2=0 then sG c k + btF c k else sG c k - btF c k:=rfl
  rw [hbf] at has ix;have hn1:=ez p3 (by omega) (d:=(k:Int) + 1);have hf1:=sC (c:=c) (d:=k);have hf2:=sC (c:=c) (d:=k + 1);have hn2:=ez p3 (by omega) (d:=((k + 1:Nat):Int) + 1)
  have hrm:∀ tb tf,bh .rem tb tf (.int .i64 (k:Int)) (.int .i64 2)=some (.int .i64 ((k % 2:Nat):Int)):=fun tb tf=>by
   rw [qR (by omega) (by omega)]
   congr 2
  have hd1:Dat (eJ (aD c ((k:Int) + 1)).length (dQ (aD c ((k:Int) + 1)) (aD c k))):=fB _ _;have hk1:((k + 1:Nat):Int)=(k:Int) + 1:=by omega
  by_cases h8:k + 1 < 8
  ·have hm2:=Bc (d:=k + 1) p3 (by omega) h8;have hr2:=AB (c:=c) (d:=k + 1) p3 (by omega);have hd2:Dat (eJ (aD c (((k + 1:Nat):Int) + 1)).length (dQ (aD c (((k + 1:Nat):Int) + 1)) (aD c ((k + 1:Nat):Int)))):=fB _ _;rw [fS] at hm1 hr1 hm2 hr2 hd1 hd2;rw [hk1] at hm2 hr2 hd2 hf2 hn2;generalize dQ (aD c ((k:Int) + 1)) (aD c k)=R1 at *;generalize dQ (aD c ((k:Int) + 1 + 1)) (aD c ((k:Int) + 1))=R2 at *;generalize (aD c ((k:Int) + 1)).length=n1 at *;generalize (aD c ((k:Int) + 1 + 1)).length=n2 at *;generalize rkF c k=f1 at *;have zb:decide (((n1:Int) - (f1:Int) - (rkF c (k + 1):Int)) ≠ (n1:Int) - (f1:Int) - (rkF c (k + 1):Int))=false:=bj fun h=>h rfl;have zr:decide ((f1:Int) ≠ (f1:Int))=false:=bj fun h=>h rfl;have zk:decide ((k:Int) + 1 < 8)=true:=bt (by omega);by_cases he:k % 2=0
   ·rw [if_pos he] at has;rw [has] at hb2;have ze:decide (((k % 2:Nat):Int)=0)=true:=bt (by omega);clear zz;have zz:=aI @g2 (aI @z0 (aI @zb (aI @zr (aI @zk (aI @ze (aI @ix (aI @hrm (aI @au (aI @ao @dX))))))))); repeat' (first|refine zW ?_|apply a_n|refine zO ?_|refine vY ?_|refine cY ?_ (hp:=by first | exact hm1 | exact hm2 | exact hr1 | exact hr2) (hs:=by (first | refine af ?_ rfl | apply ag); (repeat' (first | exact ac | apply an | apply ah | exact aV _ | exact hd1 | exact hd2)); first | done | fail)|refine alY ?_|refine stY ?_|refine gTY ?_|refine cTY ?_|refine cFY ?_|(refine zGY ?_ ?_ <;> (intro _hg; try (exfalso; omega)))|fail)
    exact ⟨k + 1,by omega,⟨by omega,by omega,by (repeat rw [ae (by omega)]); exact g2⟩,by rw [has]; simp (disch:=omega) only [agr,ZG,reduceEqDiff,↓reduceIte]⟩
   ·rw [if_neg he] at has;rw [has] at hb2;have ze:decide (((k % 2:Nat):Int)=0)=false:=bj (by omega);clear zz;have zz:=aI @g2 (aI @z0 (aI @zb (aI @zr (aI @zk (aI @ze (aI @ix (aI @hrm (aI @au (aI @ao @dX))))))))); repeat' (first|refine zW ?_|apply a_n|refine zO ?_|refine vY ?_|refine cY ?_ (hp:=by first | exact hm1 | exact hm2 | exact hr1 | exact hr2) (hs:=by (first | refine af ?_ rfl | apply ag); (repeat' (first | exact ac | apply an | apply ah | exact aV _ | exact hd1 | exact hd2)); first | done | fail)|refine alY ?_|refine stY ?_|refine gTY ?_|refine cTY ?_|refine cFY ?_|(refine zGY ?_ ?_ <;> (intro _hg; try (exfalso; omega)))|fail)
    exact ⟨k + 1,by omega,⟨by omega,by omega,by (repeat rw [ae (by omega)]); exact g2⟩,by rw [has]; simp (disch:=omega) only [agr,ZG,reduceEqDiff,↓reduceIte]⟩
  have hf0:rkF c (k + 1)=0:=AO hm (by omega);have hz:((rkF c (k + 1):Nat):Int)=0:=by rw [hf0]; rfl
  have hr2:=DG;have e0:eJ 0 []=.agg [.int .i64 0,.sl 1 []]:=rfl;rw [fS] at hm1 hr1 hd1;rw [hz] at has ix;generalize dQ (aD c ((k:Int) + 1)) (aD c k)=R1 at *;generalize (aD c ((k:Int) + 1)).length=n1 at *;generalize rkF c k=f1 at *;have zb:decide (((n1:Int) - (f1:Int) - 0) ≠ (n1:Int) - (f1:Int) - 0)=false:=bj fun h=>h rfl;have zr:decide ((f1:Int) ≠ (f1:Int))=false:=bj fun h=>h rfl;have zk:decide ((k:Int) + 1 < 8)=false:=bj (by omega);by_cases he:k % 2=0
  ·exfalso; omega
  ·rw [if_neg he] at has;rw [has] at hb2;have ze:decide (((k % 2:Nat):Int)=0)=false:=bj (by omega);clear zz;have zz:=aI @g2 (aI @z0 (aI @zb (aI @zr (aI @zk (aI @ze (aI @ix (aI @hrm (aI @au (aI @ao @dX))))))))); repeat' (first|refine zW ?_|apply a_n|refine zO ?_|refine vY ?_|refine cY ?_ (hp:=by first | exact hm1 | exact hr1) (hs:=by (first | refine af ?_ rfl | apply ag); (repeat' (first | exact ac | apply an | apply ah | exact aV _ | exact hd1)); first | done | fail)|refine alY ?_|refine stY ?_|refine cFY ?_|(refine zGY ?_ ?_ <;> (intro _hg; try (exfalso; omega)))|fail)
   refine ie ev0 ev0 hr2 (af (ar (tg (ar (.int _ _) (ar (.eslsl 1) ac))) ac) rfl) ?_;clear zz;have zz:=aI @g2 (aI @z0 (aI @zb (aI @zr (aI @zk (aI @ze (aI @ix (aI @hrm (aI @au (aI @ao @dX))))))))); repeat' (first|refine zW ?_|apply a_n|refine zO ?_|refine vY ?_|refine gTY ?_|(refine zGY ?_ ?_ <;> (intro _hg; try (exfalso; omega)))|refine cFY ?_|fail)
   exact ⟨k + 1,by omega,⟨by omega,by omega,by (repeat rw [ae (by omega)]); exact g2⟩,by rw [has,hz]; simp (disch:=omega) only [agr,ZG,reduceEqDiff,↓reduceIte]⟩
 obtain rfl:k=m:=by omega
 rw [Bs hm hm8];have ze:decide (ir c 8 ≠ ir c 8)=false:=bj fun h=>h rfl;have s1:=AL c ((d:Int) + 1) v (by omega) hc.2 (by omega);rcases DP (n:=(aD c ((d:Int) + 1 + 1)).length) (v:=v) with h0 | h0
 rotate_left
 ·have eT:tv c ((d:Int) + 1) v=([],jv (aD c ((d:Int) + 1 + 1)).length v):=by
    unfold tv;rw [if_neg (fun h=>h p3),if_neg (by omega),if_pos (by omega)]
  rw [eT] at s1;dsimp only at s1;rcases h0 with h0 | h0
  ·rw [h0] at s1;have y1:decide ((2:Int) ≠ 0)=true:=rfl;clear zz;have zz:=aI @g2 (aI @ze (aI @y1 (aI @au @ao))); repeat' (first|refine zW ?_|apply a_n|apply a_x|apply a_r|refine zO ?_|refine vY ?_|refine cY ?_ (hp:=s1) (hs:=by (first | refine af ?_ rfl | apply ag); (repeat' (first | exact ac | apply an | apply ah | exact aV _ | exact bE _)); first | done | fail)|refine cTY ?_|refine cFY ?_|(refine zGY ?_ ?_ <;> (intro _hg; try (exfalso; omega)))|refine ak rfl ?_|refine r1Y ?_|fail)
   exact .bool _
  ·rw [h0] at s1;have y1:decide ((14:Int) ≠ 0)=true:=rfl;clear zz;have zz:=aI @g2 (aI @ze (aI @y1 (aI @au @ao))); repeat' (first|refine zW ?_|apply a_n|apply a_x|apply a_r|refine zO ?_|refine vY ?_|refine cY ?_ (hp:=s1) (hs:=by (first | refine af ?_ rfl | apply ag); (repeat' (first | exact ac | apply an | apply ah | exact aV _ | exact bE _)); first | done | fail)|refine cTY ?_|refine cFY ?_|(refine zGY ?_ ?_ <;> (intro _hg; try (exfalso; omega)))|refine ak rfl ?_|refine r1Y ?_|fail)
   exact .bool _
 rw [show (d:Int) + 1 + 1=(d:Int) + 2 by omega] at h0;have hrf:=EV p3 (d:=(d:Int) + 2);obtain ⟨a,b,bb,q1,q2,q3,q4,q5,q6,q7,q8⟩:=Cy (c:=c) (d:=d) (v:=v) p3 (by omega) (by omega) (by omega) (by omega) h0;rw [q4] at s1;dsimp only at s1;have s2:=v6 a q1;rw [q5] at s2;dsimp only at s2;have s3:=v6 b q2;rw [q6] at s3;dsimp only at s3;have za:decide ((0:Int) + 0 + 0=0)=true:=rfl;have zn:decide ((([]:List Spx).length:Int)=0)=true:=rfl;have z8:decide ((0:Int)=0)=true:=rfl;clear zz;have zz:=aI @g2 (aI @ze (aI @z0 (aI @za (aI @zn (aI @z8 (aI @au (aI @ao @aj))))))); repeat' (first|refine zW ?_|apply a_n|apply a_x|refine zO ?_|refine vY ?_|refine cY ?_ (hp:=by first | exact s1 | exact s2 | exact s3 | exact q7 | exact q8) (hs:=by (first | refine af ?_ rfl | apply ag); (repeat' (first | exact ac | apply an | apply ah | exact aV _ | exact bE _ | exact aW _)); first | done | fail)|refine gTY ?_|refine cFY ?_|(refine zGY ?_ ?_ <;> (intro _hg; try (exfalso; omega)))|refine ak rfl ?_|refine r1Y ?_|fail)
 all_goals first | exact cu rfl | (exfalso; omega)
end Go.Proofs.YtlodfaaceehfmaaGreat
namespace Go.Proofs.YtlodfaaceehfmaaGreat
open Go Go.Abs Go.RowKit
section
variable {H:Type} {enc:TypeId × Value→H} {W:World}
theorem oi:er enc Tryz.prog W 3 (AV.int .i64) (fun n=>(Lit.int .i64 n).wf=true):=uQ Tryz.underlying3
set_option maxRecDepth 100000 in
theorem JH:er enc Tryz.prog W 49 dA (fun _=>True) :=
 (nR Tryz.underlying49 (by kernel_rfl) (lU (off:=0) (off':=1) rfl (by kernel_rfl) oi (lU (off:=1) (off':=2) rfl (by kernel_rfl) oi s9))).map
  (fun a=>(⟨a.1,a.2.1⟩:Vtx)) (fun _ _=>trivial) (fun _ _=>rfl)
theorem oXs:er enc Tryz.prog W 50 aF Shn :=
 (lK Tryz.underlying50 (sz:=2) (by_:=16) (by kernel_rfl) (by kernel_rfl) (by omega) (fun _=>rfl) JH).mono fun l h=>by have:=h.2.2; show _ ≤ _; omega
theorem JP:er enc Tryz.prog W 22 aC (fun l=>Shn l∧∀ x ∈ l,Shn x) :=
 (lK Tryz.underlying22 (sz:=1) (by_:=24) (by kernel_rfl) (by kernel_rfl) jt (fun _=>rfl) oXs).mono fun l h=>⟨by have:=h.2.2; show _ ≤ _; omega,h.1⟩
set_option maxRecDepth 100000 in
theorem oCx:er enc Tryz.prog W 24 dl (fun l=>Shn l∧∀ x ∈ l,Shn x) :=
 (nR Tryz.underlying24 (by kernel_rfl) (lU (off:=0) (off':=1) rfl (by kernel_rfl) JP s9)).map
  (fun a=>a.1) (by rintro ⟨n,u⟩ ⟨h1,_⟩; exact h1) (fun _ _=>rfl)
end
theorem ra {f:FuncId} {xs:List AV} {vs:List Value} (h:Go.Abs.Pure Tryz.prog f xs (.bool true)) (w:World) (hv:dy (E0 (tK w)) w xs vs) :
    Calls Tryz.prog f vs.toArray w fun e w'=>e=.returned (.bool true)∧Below w.heap.size w w':=by
 refine (h.2 (tK w) w vs (fun _ h=>h) hv).mono ?_;rintro e w' ⟨v,imm',rfl,hb,_,_,_,hr⟩;cases hr;exact ⟨rfl,hb⟩
theorem Jz:laidOutB Tryz.prog=true:=by kernel_rfl
end Go.Proofs.YtlodfaaceehfmaaGreat
namespace Go.Proofs.YtlodfaaceehfmaaGreat
open Go Go.Abs Go.RowKit
section
variable {H:Type} {enc:TypeId × Value→H} {W:World}
theorem oVi:er enc Tryz.prog W 25 aL Shn :=
 (lK Tryz.underlying25 (sz:=1) (by_:=8) (by kernel_rfl) (by kernel_rfl) jt (fun _=>rfl) oi).mono fun l h=>by have:=h.2.2; show _ ≤ _; omega
end
end Go.Proofs.YtlodfaaceehfmaaGreat
namespace Go.Proofs.YtlodfaaceehfmaaGreat
open Go Go.Abs Go.RowKit
theorem wf8 {n:Int} (h:(Lit.int .u8 n).wf=true):0 ≤ n∧n < 256:=by
 simp only [Lit.wf,dS,gJ] at h;have h1:IntKind.min .u8=0:=by decide
 have h2:IntKind.max .u8=255:=by decide
 omega
section
variable {H:Type} {enc:TypeId × Value→H} {W:World}
theorem ou8:er enc Tryz.prog W 5 (fun n:Nat=>AV.int .u8 (n:Int)) (fun n=>n < 256) :=
 (uQ Tryz.underlying5).map (fun n=>n.toNat) (fun n h=>by
  have h2:=wf8 h;omega) (fun n h=>by
  have h2:=wf8 h;rw [Int.toNat_of_nonneg h2.1])
end
end Go.Proofs.YtlodfaaceehfmaaGreat
namespace Go.Proofs.YtlodfaaceehfmaaGreat
open Go Go.Abs Go.RowKit Go.ChangeShapes Go.WideShapes Go.ChangeAt
theorem tA {H:Type} {enc:TypeId × Value→H} {P:Program} {f:Func} {s:ChangeSpec} {apart fresh handsOn again:Bool} {W W':World} {args:Array Value} {v:Value} {ds gs:List (DataW H)} {before pa pv:List MemPlace}
    (hW:DataW.Whole enc P f.params.toList s.vars apart W args.toList ds gs before)
    (hres:∀ (b:Nat) (sp:Nat→Bool) (hd:Bool),DataW.TrodAll enc P W' b sp hd f.resultTypes.toList (v.resultList f.resultTypes.size) (s.fn H (ds ++ gs)).results [])
    (hargs:∀ sp:Nat→Bool,(∀ p ∈ before,sp p.block=true)→DataW.TrodAll enc P W' 0 sp true f.params.toList args.toList (s.fn H (ds ++ gs)).args pa)
    (hvars:∀ sp:Nat→Bool,(∀ p ∈ before,sp p.block=true)→DataW.TrodVars enc P W' sp s.vars (s.fn H (ds ++ gs)).vars pv)
    (hps:before=pa ++ pv) (hb:Below W.heap.size W W')
    (hok:∀ (j:Nat) (t:TypeId) (r:Value),f.resultTypes[j]?=some t→(v.resultList f.resultTypes.size)[j]?=some r→Value.okWide P W' .any 0 t r) :
    s.post enc P f apart fresh handsOn again W args v W':=by
 have hold:∀ p ∈ before,(fun b=>decide (b < W.heap.size)) p.block=true:=fun p hp=>by simpa using hW.lt p hp
 have hlt:=fun p hp=>hW.lt p hp;refine ⟨ds,gs,before,[],pa,pv,hW,hres _ _ _,hargs _ hold,hvars _ hold,World.keptBut_mono (fun p hp=>⟨hp,?_⟩) (hb.frame _),fun _=>?_⟩
 ·rw [hps,fp] at hp;exact Or.inr hp
 ·obtain ⟨_,_,_,_,_,hz,hn⟩:=hW;refine ⟨hok,_,_,([] ++ pa) ++ pv,⟨[] ++ pa,pv,trodAll_append (hargs _ (fun _ _=>rfl)) (hres _ _ _),hvars _ (fun _ _=>rfl),rfl,?_,?_⟩,?_⟩
  ·intro b off hp;have hp':MemPlace.cell b off ∈ before:=by rw [hps]; simpa using hp
   rw [hb.frozen (hlt _ hp')];exact hz b off hp'
  ·intro ha;have:=hn ha;rw [hps] at this;simpa using this
  ·intro p hp _;rw [hps];simpa using hp
theorem Dg {E:Env} {w:World}:dy E w [] []:=⟨rfl,fun i x y h=>(by cases h)⟩
theorem pS {E:Env} {w:World} {x:AV} {y:Value} {xs:List AV} {ys:List Value} (h:Rel E w x y) (hs:dy E w xs ys):dy E w (x :: xs) (y :: ys):=by
 refine ⟨by simp [hs.1],fun i a b ha hb=>?_⟩;cases i with
 | zero=>simp at ha hb; subst ha hb; exact h
 | succ i=>simp at ha hb; exact hs.2 i a b ha hb
theorem own:ownKnob Tryz.prog.godebug=none:=by kernel_rfl
end Go.Proofs.YtlodfaaceehfmaaGreat