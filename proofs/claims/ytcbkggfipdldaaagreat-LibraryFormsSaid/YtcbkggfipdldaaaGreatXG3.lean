/- Texts of this claim, one after the other: AbsBD, AbsC1, AbsC2, AbsC3, AbsC4, AbsC5, AbsC6, AbsC7, AbsC8, AbsC9, AbsD1, AbsD2, AbsZ, AbsD3, AbsO. -/
import Derived.Test.YtcbkggfipdldaaaGreatXG2
import Derived.IntWalk
import Derived.ChangeArms
import Derived.Carry
import Derived.Deep.Slices
import Derived.Lib.SmallJoins

set_option linter.unusedSimpArgs false
set_option linter.unusedVariables false
set_option maxHeartbeats 1000000
namespace Go.Abs
open Go.RowKit
def m8(ck:Nat)(r:Option Nat)(bs:List Nat):List Nat:=match r with|some _=>bs|none=>bs++[ck]
def rl(ck:Nat)(r:Option Nat):Nat:=match r with|some _=>ck|none=>ck+1
def kG{α:Type}(r:Option Nat)(l:List α):List α:=match r with|some i=>l.eraseIdx i|none=>l
theorem nN{P:Program}{t:TypeId}{r:Option Operand}{T:Tm}{H:Hp}{nx:Nat}{K:AV→Hp→Nat→Prop}(ht:r=none∨ ∃x n k p,r=some x∧ev T x=.int k n∧fC P t=some p)
    (h:K (.mp nx) (am H nx [.bmap [] [] [] 0]) (nx+1)):ce P (.makeMap t r) T H nx K:=by
 refine bc (by intro c;simp) ?_;rintro E w a ⟨dst,op,type,pos,after,guard⟩ ho hE hh hf htm;simp only at ho;subst ho;obtain⟨E',hE',he,hEo,hh',hs,hnew⟩:=oh hE hh (hf nx (aM _)) (.map #[] 0) rfl (by intro ds;simp);have hspm:=hEo.spm nx _ hs;refine⟨.value (.map (some w.heap.size)),.map (some w.heap.size),w.alloc (.map #[] 0),E',.mp nx,_,nx+1,?_,.inl rfl,he,hEo,hh'.addSp (x:=.bmap [] [] [] 0) (ms _) hspm hs ⟨#[],hnew,⟨rfl,rfl,rfl,by simp,by simp,by simp,List.nodup_nil,by simp⟩⟩,hf.sp hE',.mp _ _ hs,h⟩;refine dt ?_;rcases ht with rfl|⟨x,n,k,p,rfl,hx,hp⟩
 ·simp only[Option.map_none,Instr.makeMap,bj,run_newObj_alloc,bg];rfl
 ·have hr:=htm x (by simp[Op.operands,Call.operands]);rw[hx] at hr;generalize hvx:a.eval x=vx at hr;cases hr;have hu:=eg (P:=P) (t:=t) (k:=p.1) (e:=p.2) hp;simp only[jd,hvx,Instr.makeMap,bj,bE hu,asInt,cS,run_newObj_alloc,bg];rfl
theorem hZ{E:Env}{H:Hp}{nx:Nat}{w:World}(hh:HeapOk E H nx w){b k:Nat}{ks vs:List AV}{bs:List Nat}{ck:Nat}(hb:H b=some [.bmap ks vs bs ck])(hs:E.sp b=some k):∃es,w.heap[k]?=some (.map es ck)∧MapB E w ks vs bs ck es:=by
 obtain⟨k',h1,es,h2,h3⟩:=hh.spec b _ hb rfl;rw[hs] at h1;cases h1;exact⟨es,h2,h3⟩
theorem sK{E:Env}{H:Hp}{nx:Nat}{w:World}(hE:EnvOk E w)(hh:HeapOk E H nx w){b k:Nat}{ks vs ks' vs':List AV}{bs bs':List Nat}{ck ck':Nat}{es es':Array MapEntry}(hb:H b=some [.bmap ks vs bs ck])(hs:E.sp b=some k)(hw:w.heap[k]?=some (.map es ck))
    (hm:MapB E w ks' vs' bs' ck' es'):Ext E w E (w.putObj k (.map es' ck'))∧EnvOk E (w.putObj k (.map es' ck'))∧HeapOk E (am H b [.bmap ks' vs' bs' ck']) nx (w.putObj k (.map es' ck')):=by
 have hlp:∀r T,E.lp b=some (r,T)→False:=by
  intro r T h;obtain⟨k',st,p,h1,h2,_⟩:=hE.lp b r T h;rw[hs] at h1;cases h1;rw[hw] at h2;cases h2
 obtain⟨q1,q2,q3⟩:=kS hE (hh.del b) hs hw (o':=.map es' ck') rfl rfl (by intro ds;simp) (by intro ds;simp) (fun r T h=>(hlp r T h).elim) (fun x hx=>by rw[eZ] at hx;cases hx);refine⟨q1,q2,?_⟩
 have hH:am (dv H b) b [.bmap ks' vs' bs' ck']=am H b [.bmap ks' vs' bs' ck']:=by
  funext y;unfold am dv;split<;>rfl
 rw[←hH];exact q3.addSp (hh.dom _ _ hb) (q2.spm b k hs) hs ⟨es',vH (fA.1 hw).1,hm.ext q1⟩
theorem kQ{P:Program}{t kt et:TypeId}{m k x:Operand}{T:Tm}{H:Hp}{nx b:Nat}{K:AV→Hp→Nat→Prop}{mk:MK}{ks vs:List AV}{bs:List Nat}{ck:Nat}{r:Option Nat}(ht:fC P t=some (kt,et))(hk:mkk P kt=some mk)
    (hm:ev T m=.mp b) (hb:H b=some [.bmap ks vs bs ck]) (hfit:je mk (ev T k)=true) (hr:cR mk (ev T k) ks=some r)
    (h:K (.tup []) (am H b [.bmap (cW (ev T k) r ks) (fw (ev T x) r vs) (m8 ck r bs) (rl ck r)]) nx):ce P (.mapUpdate t m k x) T H nx K:=by
 refine bc (by intro c;simp) ?_;rintro E w a ⟨dst,op,type,pos,after,guard⟩ ho hE hh hf htm;simp only at ho;subst ho;have hmr:=htm m (by simp[Op.operands,Call.operands]);have hkr:=htm k (by simp[Op.operands,Call.operands]);have hxr:=htm x (by simp[Op.operands,Call.operands]);rw[hm] at hmr;generalize hvm:a.eval m=vm at hmr;cases hmr with
 |mp _ kb hs=>
 obtain⟨es,hw,hok⟩:=hZ hh hb hs;have hck:=d4 (P:=P) (w:=w) hk hkr hfit false;have hfk:=dE (P:=P) (es:=es.toList) (ks:=ks) hk hkr (by simpa using hok.len) (fun j y e h1 h2=>hok.key j y e h1 (by simpa using h2)) hr;have hu:=eg ht
 have key:∃es',(Instr.mapUpdate t (.map (some kb)) (a.eval k) (a.eval x)).run P w=.ok () (w.putObj kb (.map es' (rl ck r)))∧MapB E w (cW (ev T k) r ks) (fw (ev T x) r vs) (m8 ck r bs) (rl ck r) es':=by
  unfold Instr.mapUpdate;simp only[bj,bE hu,bg,bz hw rfl,hck,hfk];cases r with
  |none=>
   simp only[gU,Option.map_none,cQ hw rfl];refine⟨_,rfl,?_⟩;have hl:=hok.len;have hl':=hok.len';have hbl:=hok.blen;refine⟨by simp[cW,hl],by simp[fw,cW,hl'],by simp[m8,cW,hbl],fun i y e h1 h2=>?_,fun i y e h1 h2=>?_,fun i e h1=>?_,?_,?_⟩
   ·simp only[cW] at h1;rw[qU] at h2;split at h2
    ·rename_i he;cases h2;rw[he,hl,fJ (aM _)] at h1;simp at h1;subst h1;exact hkr
    ·rename_i hne;have hlt:i<es.size:=(fA.1 h2).1;rw[eV (by omega)] at h1;exact hok.key i y e h1 h2
   ·simp only[fw] at h1;rw[qU] at h2;split at h2
    ·rename_i he;cases h2;rw[he,hl,fJ (by omega)] at h1;simp[hl'] at h1;subst h1;exact hxr
    ·rename_i hne;have hlt:i<es.size:=(fA.1 h2).1;rw[eV (by omega)] at h1;exact hok.val i y e h1 h2
   ·simp only[m8];rw[qU] at h1;split at h1
    ·rename_i he;cases h1;rw[he,hl,fJ (by omega)];simp[hbl]
    ·have:=hok.born i e h1;have hlt:i<es.size:=(fA.1 h1).1;rw[eV (by omega)];exact this
   ·simp only[m8];refine List.nodup_append.2 ⟨hok.nd,by simp,fun a ha c hc=>?_⟩;simp at hc;subst hc;have:=hok.lt a ha;omega
   ·simp only[m8,rl];intro y hy;rcases pf.1 hy with h'|h'
    ·have:=hok.lt y h';omega
    ·simp at h';omega
  |some i=>
   obtain⟨y,hy,hsame⟩:=eo hr;have hlt:i<es.size:=by have:=(bC.1 hy).1;have:=hok.len;omega
   have hbits:=jV hkr (hok.key i y es[i] hy (by simp[hlt])) hsame
   have dA:(Instr.keyThatStays (((es[i]?).map (·.key)).getD (a.eval k)) (a.eval k)).run P w=.ok (a.eval k) w:=by
    unfold Instr.keyThatStays;simp only[hlt,ww,jd,tF];rw[if_pos hbits];rfl
   simp only[gU,jd,bQ,bj,dA,bg,cQ hw rfl];refine⟨_,rfl,?_⟩
   have hmod:∀j e,(es.modify i fun e=>{e with key:=a.eval k,val:=a.eval x})[j]?=some e→∃e0,es[j]?=some e0∧((i=j∧e={e0 with key:=a.eval k,val:=a.eval x})∨(i≠j∧e=e0)):=by
    intro j e he;rw[Array.getElem?_modify] at he;split at he
    ·rename_i hij;cases h0:es[j]? with
     |none=>rw[h0] at he;cases he
     |some e0=>rw[h0] at he;cases he;exact⟨e0,rfl,.inl ⟨hij,rfl⟩⟩
    ·rename_i hij;exact⟨e,he,.inr ⟨hij,rfl⟩⟩
   refine⟨by simp[cW,hok.len],by simp[fw,cW,hok.len'],hok.blen,fun j z e h1 h2=>?_,fun j z e h1 h2=>?_,fun j e h1=>?_,hok.nd,hok.lt⟩
   ·obtain⟨e0,k1,(⟨rfl,rfl⟩|⟨hne,rfl⟩)⟩:=hmod j e h2
    ·simp only[cW] at h1;rw[hy] at h1;cases h1;rw[←n6 hsame];exact hkr
    ·exact hok.key j z e h1 k1
   ·obtain⟨e0,k1,(⟨rfl,rfl⟩|⟨hne,rfl⟩)⟩:=hmod j e h2
    ·simp only[fw] at h1;have:i<vs.length:=by have:=hok.len';have:=hok.len;omega
     rw[List.getElem?_set_self this] at h1;cases h1;exact hxr
    ·simp only[fw] at h1;rw[List.getElem?_set_ne hne] at h1;exact hok.val j z e h1 k1
   ·obtain⟨e0,k1,(⟨rfl,rfl⟩|⟨hne,rfl⟩)⟩:=hmod j e h1
    ·exact hok.born i e0 k1
    ·exact hok.born j e k1
 obtain⟨es',hrun,hok'⟩:=key;obtain⟨q1,q2,q3⟩:=sK hE hh hb hs hw hok';refine⟨.skip,Go.undef,_,E,.tup [],_,nx,?_,.inr ⟨rfl,rfl⟩,q1,q2,q3,hf,eA _ _,h⟩;refine lw ?_;show(Instr.mapUpdate t (a.eval m) (a.eval k) (a.eval x)).run P w=_;rw[hvm];exact hrun
theorem jP{P:Program}{t kt et:TypeId}{m k:Operand}{ok:Bool}{T:Tm}{H:Hp}{nx b:Nat}{K:AV→Hp→Nat→Prop}{mk:MK}{ks vs:List AV}{bs:List Nat}{ck:Nat}{r:Option Nat}{z:AV}(ht:fC P t=some (kt,et))(hk:mkk P kt=some mk)(hz:dS P et=some z)
    (hm:ev T m=.mp b) (hb:H b=some [.bmap ks vs bs ck]) (hfit:je mk (ev T k)=true) (hr:cR mk (ev T k) ks=some r)
    (h:K (mget z ok r vs) H nx):ce P (.lookup t m k ok) T H nx K:=by
 refine bc (by intro c;simp) ?_;rintro E w a ⟨dst,op,type,pos,after,guard⟩ ho hE hh hf htm;simp only at ho;subst ho;have hmr:=htm m (by simp[Op.operands,Call.operands]);have hkr:=htm k (by simp[Op.operands,Call.operands]);rw[hm] at hmr;generalize hvm:a.eval m=vm at hmr;cases hmr with
 |mp _ kb hs=>
 obtain⟨es,hw,hok⟩:=hZ hh hb hs;have hck:=d4 (P:=P) (w:=w) hk hkr hfit es.isEmpty;have hfk:=dE (P:=P) (es:=es.toList) (ks:=ks) hk hkr (by simpa using hok.len) (fun j y e h1 h2=>hok.key j y e h1 (by simpa using h2)) hr;have hu:=eg ht;obtain⟨vz,hvz,hrz⟩:=c8 hz
 have key:∃v,(Instr.lookup t (.map (some kb)) (a.eval k) ok).run P w=.ok v w∧Rel E w (mget z ok r vs) v:=by
  unfold Instr.lookup;simp only[bj,bE hu,bg,bz hw rfl,cS,hck,hfk];cases r with
  |none=>
   simp only[gU,Option.map_none,bj,hvz,bg,cS];refine⟨_,rfl,?_⟩;unfold mget;cases ok with
   |true=>exact gw (hrz E w) (.bool _)
   |false=>exact hrz E w
  |some i=>
   obtain⟨y,hy,hsame⟩:=eo hr;have hlt:i<es.size:=by have:=(bC.1 hy).1;have:=hok.len;omega
   have hlv:i<vs.length:=by have:=hok.len';have:=hok.len;omega
   simp only[gU,jd,cS,bg];refine⟨_,rfl,?_⟩;have e1:es.toList.getD i default=es[i]:=by simp[List.getD,hlt]
   have e2:vs.getD i .undef=vs[i]:=by simp[List.getD,hlv]
   have hrel:=hok.val i vs[i] es[i] (by simp[hlv]) (by simp[hlt]);rw[e1];cases ok with
   |true=>
    show Rel E w (.tup [vs.getD i .undef,.bool true]) _;rw[e2];exact gw hrel (.bool _)
   |false=>
    show Rel E w (vs.getD i .undef) _;rw[e2];exact hrel
 obtain⟨v,hrun,hrel⟩:=key;refine⟨.value v,v,w,E,_,H,nx,?_,.inl rfl,Ext.refl _ _,hE,hh,hf,hrel,h⟩;refine dt ?_;show(Instr.lookup t (a.eval m) (a.eval k) ok).run P w=_;rw[hvm];exact hrun
theorem kY{α:Type}{l:List α}{i j:Nat}{x:α}(h:(l.eraseIdx i)[j]?=some x):l[if j<i then j else j+1]?=some x:=by
 rw[List.getElem?_eraseIdx] at h;split at h
 ·rename_i hh;rw[if_pos hh];exact h
 ·rename_i hh;rw[if_neg hh];exact h
theorem o9{P:Program}{t kt et:TypeId}{tk:TypeId}{m k:Operand}{T:Tm}{H:Hp}{nx b:Nat}{K:AV→Hp→Nat→Prop}{mk:MK}{ks vs:List AV}{bs:List Nat}{ck:Nat}{r:Option Nat}(ht:fC P t=some (kt,et))(hk:mkk P kt=some mk)
    (hm:ev T m=.mp b) (hb:H b=some [.bmap ks vs bs ck]) (hfit:je mk (ev T k)=true) (hr:cR mk (ev T k) ks=some r)
    (h:K (.tup []) (am H b [.bmap (kG r ks) (kG r vs) (kG r bs) ck]) nx):ce P (.call {callee:=.builtin .delete,args:=#[m,k],argTypes:=#[t,tk]}) T H nx K:=by
 refine bc (by intro c;simp) ?_;rintro E w a ⟨dst,op,type,pos,after,guard⟩ ho hE hh hf htm;simp only at ho;subst ho;have hmr:=htm m (by simp[Op.operands,Call.operands]);have hkr:=htm k (by simp[Op.operands,Call.operands]);rw[hm] at hmr;generalize hvm:a.eval m=vm at hmr;cases hmr with
 |mp _ kb hs=>
 obtain⟨es,hw,hok⟩:=hZ hh hb hs;have hck:=d4 (P:=P) (w:=w) hk hkr hfit es.isEmpty;have hfk:=dE (P:=P) (es:=es.toList) (ks:=ks) hk hkr (by simpa using hok.len) (fun j y e h1 h2=>hok.key j y e h1 (by simpa using h2)) hr;have hu:=eg ht;have hl:=hok.len;have hl':=hok.len';have hbl:=hok.blen
 have key:∃es',(Builtin.delete_ #[t,tk] type #[.map (some kb),a.eval k]).run P w=.ok (.tuple #[]) (w.putObj kb (.map es' ck))∧MapB E w (kG r ks) (kG r vs) (kG r bs) ck es':=by
  unfold Builtin.delete_;cases r with
  |none=>
   refine⟨es,?_,hok⟩;simp[bE hu,bz hw rfl,hck,hfk,gU,cQ hw rfl]
  |some i=>
   obtain⟨y,hy,hsame⟩:=eo hr;have hlt:i<es.size:=by have:=(bC.1 hy).1;omega
   have he:∀(j:Nat)(e:MapEntry),(es.eraseIdxIfInBounds i)[j]?=some e→es[if j<i then j else j+1]?=some e:=fun j e h=>by
    rw[Array.eraseIdxIfInBounds_eq,dif_pos hlt] at h;have h2:((es.eraseIdx i hlt).toList)[j]?=some e:=by rw[Array.getElem?_toList];exact h
    rw[Array.toList_eraseIdx] at h2;simpa using kY h2
   refine⟨es.eraseIdxIfInBounds i,?_,⟨?_,?_,?_,fun j x e h1 h2=>hok.key _ x e (kY h1) (he j e h2),fun j x e h1 h2=>hok.val _ x e (kY h1) (he j e h2),fun j e h1=>?_,hok.nd.sublist (List.eraseIdx_sublist ..),fun y hy=>hok.lt y (List.mem_of_mem_eraseIdx hy)⟩⟩
   ·simp[bE hu,bz hw rfl,hck,hfk,gU,cQ hw rfl]
   ·show(es.eraseIdxIfInBounds i).size=(ks.eraseIdx i).length;rw[Array.eraseIdxIfInBounds_eq,dif_pos hlt,Array.size_eraseIdx,List.length_eraseIdx,if_pos (by omega),hl]
   ·show(vs.eraseIdx i).length=(ks.eraseIdx i).length;rw[List.length_eraseIdx,List.length_eraseIdx,if_pos (by omega),if_pos (by omega),hl']
   ·show(bs.eraseIdx i).length=(ks.eraseIdx i).length;rw[List.length_eraseIdx,List.length_eraseIdx,if_pos (by omega),if_pos (by omega),hbl]
   ·have:=hok.born _ e (he j e h1);show(bs.eraseIdx i)[j]?=some e.born;rw[List.getElem?_eraseIdx];split at this<;>(rename_i hh;first|rw[if_pos hh]|rw[if_neg hh])<;>exact this
 obtain⟨es',hrun,hok'⟩:=key;obtain⟨q1,q2,q3⟩:=sK hE hh hb hs hw hok';refine⟨.value (.tuple #[]),.tuple #[],_,E,.tup [],_,nx,?_,.inl rfl,q1,q2,q3,hf,.tup [] [] rfl (fun i a b h=>by simp at h),h⟩;simp only[execOp,resolve,invoke,builtin,bj,cS,bg];simp[hvm,hrun]
theorem rY{P:Program}{t:TypeId}{m:Operand}{T:Tm}{H:Hp}{nx b:Nat}{K:AV→Hp→Nat→Prop}{p:TypeId×TypeId}{ks vs:List AV}{bs:List Nat}{ck:Nat}(ht:fC P t=some p)(hm:ev T m=.mp b)(hb:H b=some [.bmap ks vs bs ck])
    (h:K (.int .i64 ks.length) H nx):ce P (.call {callee:=.builtin .len,args:=#[m],argTypes:=#[t]}) T H nx K:=by
 refine bc (by intro c;simp) ?_;rintro E w a ⟨dst,op,type,pos,after,guard⟩ ho hE hh hf htm;simp only at ho;subst ho;have hmr:=htm m (by simp[Op.operands,Call.operands]);rw[hm] at hmr;generalize hvm:a.eval m=vm at hmr;cases hmr with
 |mp _ kb hs=>
 obtain⟨es,hw,hok⟩:=hZ hh hb hs;have hu:=eg (P:=P) (t:=t) (k:=p.1) (e:=p.2) ht
 have hrun:(Builtin.len_ #[t] type #[.map (some kb)]).run P w=.ok (goInt es.size) w:=by
  unfold Builtin.len_;simp[bE hu,bz hw rfl]
 refine⟨.value (goInt es.size),goInt es.size,w,E,_,H,nx,?_,.inl rfl,Ext.refl _ _,hE,hh,hf,?_,h⟩
 ·simp only[execOp,resolve,invoke,builtin,bj,cS,bg];simp[hvm,hrun]
 ·rw[hok.len];exact .int _ _
theorem pb{P:Program}{t:TypeId}{m:Operand}{T:Tm}{H:Hp}{nx b:Nat}{K:AV→Hp→Nat→Prop}{p:TypeId×TypeId}{ks vs:List AV}{bs:List Nat}{ck:Nat}(ht:fC P t=some p)(hm:ev T m=.mp b)(hb:H b=some [.bmap ks vs bs ck])
    (h:K (.itr nx) (am H nx [.biter b ck []]) (nx+1)):ce P (.range t m) T H nx K:=by
 refine bc (by intro c;simp) ?_;rintro E w a ⟨dst,op,type,pos,after,guard⟩ ho hE hh hf htm;simp only at ho;subst ho;have hmr:=htm m (by simp[Op.operands,Call.operands]);rw[hm] at hmr;generalize hvm:a.eval m=vm at hmr;cases hmr with
 |mp _ kb hs=>
 obtain⟨es,hw,hok⟩:=hZ hh hb hs;have hu:=eg (P:=P) (t:=t) (k:=p.1) (e:=p.2) ht;obtain⟨E',hE',he,hEo,hh',hs',hnew⟩:=oh hE hh (hf nx (aM _)) (.mapIter (some kb) ck #[] ck) rfl (by intro ds;simp)
 refine ⟨.value (.pointer (some ⟨w.heap.size,0,none⟩)),.pointer (some ⟨w.heap.size,0,none⟩),w.alloc (.mapIter (some kb) ck #[] ck),E',.itr nx,_,nx + 1,?_,.inl rfl,he,hEo,
  hh'.addSp (x:=.biter b ck []) (ms _) (hEo.spm nx _ hs') hs' ⟨kb,hnew,he.sp _ _ hs⟩,hf.sp hE',.itr _ _ hs',h⟩
 refine dt ?_;show(Instr.range t (a.eval m)).run P w=_;rw[hvm];unfold Instr.range;simp only[bj,bE hu,bg,bz hw rfl,cS,run_newObj_alloc]
theorem rB{E:Env}{H:Hp}{nx:Nat}{w:World}(hh:HeapOk E H nx w){b k m n0:Nat}{seen:List Nat}(hb:H b=some [.biter m n0 seen])(hs:E.sp b=some k):
    ∃km,w.heap[k]?=some (.mapIter (some km) n0 seen.toArray n0)∧E.sp m=some km:=by
 obtain⟨k',h1,h2⟩:=hh.spec b _ hb rfl;rw[hs] at h1;cases h1;exact h2
theorem qp{P:Program}{it:Operand}{T:Tm}{H:Hp}{nx b m ck:Nat}{K:AV→Hp→Nat→Prop}{ks vs:List AV}{bs seen:List Nat}(hi:ev T it=.itr b)(hb:H b=some [.biter m ck seen])(hm:H m=some [.bmap ks vs bs ck])
    (h1:∀i s,bs[i]?=some s→s∉seen→K (.tup [.bool true,ks.getD i .undef,vs.getD i .undef]) (am H b [.biter m ck (seen++[s])]) nx)
    (h2:(∀s∈bs,s∈seen)→K (.tup [.bool false]) H nx):ce P (.next it false) T H nx K:=by
 refine bc (by intro c;simp) ?_;rintro E w a ⟨dst,op,type,pos,after,guard⟩ ho hE hh hf htm;simp only at ho;subst ho;have hir:=htm it (by simp[Op.operands,Call.operands]);rw[hi] at hir;generalize hvi:a.eval it=vi at hir;cases hir with
 |itr _ k hs=>
 obtain⟨km,hw,hsm⟩:=rB hh hb hs;obtain⟨es,hwm,hok⟩:=hZ hh hm hsm;have hl:=hok.len;have hl':=hok.len';have hbl:=hok.blen;have hbn:∀(i:Nat)(e:MapEntry),es[i]?=some e→e.born<ck:=fun i e h=>hok.lt _ (fh (hok.born i e h))
 have hguard:(!seen.toArray.isEmpty&& !es.isEmpty&&es.all (·.born≥ck))=false:=by
  by_cases hz:es.size=0
  ·have:es=#[]:=vD hz;subst this;simp
  ·have h0:=hbn 0 es[0] (by simp)
   have:es.all (·.born≥ck)=false:=by
    rw[Array.all_eq_false];exact⟨0,by omega,by simp;omega⟩
   rw[this];simp
 obtain⟨w1,hw1,hrun⟩:=ss (P:=P) (ty:=type) hw hwm hguard
 have hE1:Ext E w E w1∧EnvOk E w1∧HeapOk E H nx w1∧w1.heap=w.heap:=by
  rcases hw1 with rfl|rfl
  ·exact⟨Ext.refl _ _,hE,hh,rfl⟩
  ·exact⟨Ext.same rfl,hE.drew,hh.same rfl,rfl⟩
 obtain⟨k1,k2,k3,k4⟩:=hE1
 have hexec:∀v w',(Instr.next (.pointer (some ⟨k,0,none⟩)) false type).run P w=.ok v w'→(execOp a.eval ⟨dst,.next it false,type,pos,after,guard⟩).run P w=.ok (.value v) w':=by
  intro v w' h;refine dt ?_;show(Instr.next (a.eval it) false type).run P w=_;rw[hvi];exact h
 rcases hrun with⟨hold,hrun⟩|⟨e,i,hei,hns,hrun⟩
 ·refine⟨.value (.tuple #[.bool false]),.tuple #[.bool false],w1,E,.tup [.bool false],H,nx,hexec _ _ hrun,.inl rfl,k1,k2,k3,hf,rz (.bool _),h2 (fun s hs'=>?_)⟩;rcases Decidable.em (s∈seen) with h|h
  ·exact h
  ·exfalso;obtain⟨i,hib,hie⟩:=fP hs';have hlt:i<es.size:=by omega
   have hb0:=hok.born i es[i] (by simp[hlt])
   have hsb:s=es[i].born:=by
    rw[qk hib,hie] at hb0;exact Option.some.inj hb0
   have hmem:es[i]∈dx es seen ck:=by
    unfold dx;rw[Array.mem_filter];refine⟨Array.mem_filter.2 ⟨Array.getElem_mem hlt,?_⟩,by rw[←hsb];simpa using hok.lt s hs'⟩;rw[←hsb];simpa using h
   have:(dx es seen ck).size=0:=by simpa[Array.isEmpty] using hold
   rw[vD this] at hmem;simp at hmem
 ·have hlt:i<es.size:=(fA.1 hei).1;have hb0:=hok.born i e hei;have hni:e.born∉seen:=by simpa using hns
  have hw1k:w1.heap[k]?=some (.mapIter (some km) ck seen.toArray ck):=by rw[k4];exact hw
  have hlp:∀r T,E.lp b=some (r,T)→False:=by
   intro r T h;obtain⟨k',st,p,h1,h2,_⟩:=hE.lp b r T h;rw[hs] at h1;cases h1;rw[hw] at h2;cases h2
  obtain⟨q1,q2,q3⟩:=kS k2 (k3.del b) hs hw1k (o':=.mapIter (some km) ck (seen.toArray.push e.born) ck) rfl rfl (by intro ds;simp) (by intro ds;simp) (fun r T h=>(hlp r T h).elim) (fun x hx=>by rw[eZ] at hx;cases hx)
  have hH:am (dv H b) b [.biter m ck (seen++[e.born])]=am H b [.biter m ck (seen++[e.born])]:=by
   funext y;unfold am dv;split<;>rfl
  have q4:=q3.addSp (x:=.biter m ck (seen ++ [e.born])) (hh.dom _ _ hb) (q2.spm b k hs) hs ⟨km,by
   rw[vH (fA.1 hw1k).1];simp,hsm⟩
  rw[hH] at q4;have hkr:=hok.key i (ks.getD i .undef) e (by simp[List.getD,show i<ks.length by omega]) hei;have hvr:=hok.val i (vs.getD i .undef) e (by simp[List.getD,show i<vs.length by omega]) hei
  exact ⟨.value (.tuple #[.bool true,e.key,e.val]),.tuple #[.bool true,e.key,e.val],_,E,.tup [.bool true,ks.getD i .undef,vs.getD i .undef],_,nx,hexec _ _ hrun,.inl rfl,k1.trans q1,q2,q4,hf,
   sO (.bool _) (hkr.ext (k1.trans q1)) (hvr.ext (k1.trans q1)),h1 i e.born hb0 hni⟩
theorem oU{P:Program}{it:Operand}{T:Tm}{H:Hp}{nx b m ck i s:Nat}{K:AV→Hp→Nat→Prop}{ks vs:List AV}{bs seen:List Nat}(hi:ev T it=.itr b)(hb:H b=some [.biter m ck seen])(hm:H m=some [.bmap ks vs bs ck])
    (hl:seen.getLast?=some s) (hbi:bs[i]?=some s) (h:K (.tup [ks.getD i .undef,vs.getD i .undef]) H nx):ce P (.entry it) T H nx K:=by
 refine bc (by intro c;simp) ?_;rintro E w a ⟨dst,op,type,pos,after,guard⟩ ho hE hh hf htm;simp only at ho;subst ho;have hir:=htm it (by simp[Op.operands,Call.operands]);rw[hi] at hir;generalize hvi:a.eval it=vi at hir;cases hir with
 |itr _ k hs=>
 obtain⟨km,hw,hsm⟩:=rB hh hb hs;obtain⟨es,hwm,hok⟩:=hZ hh hm hsm;have hlen:=hok.len;have hlen':=hok.len';have hbl:=hok.blen;have hib:i<bs.length:=(bC.1 hbi).1;have hie:i<es.size:=by omega
 have hei:es[i]?=some es[i]:=by simp[hie]
 have hborn:es[i].born=s:=by
  have:=hok.born i es[i] hei;rw[hbi] at this;exact(Option.some.inj this).symm
 have hback:seen.toArray.back?=some s:=by rw[List.back?_toArray,hl]
 have hfind:es.find? (·.born==s)=some es[i]:=by
  cases hf:es.find? (·.born==s) with
  |none=>
   have:=Array.find?_eq_none.1 hf es[i] (Array.getElem_mem hie);rw[hborn] at this;simp at this
  |some e=>
   have h1:=Array.find?_some hf;have h2:=Array.mem_of_find?_eq_some hf;obtain⟨j,hj,rfl⟩:=Array.mem_iff_getElem.1 h2;have h3:=hok.born j es[j] (by simp[hj]);simp only[beq_iff_eq] at h1;rw[h1] at h3;have hj':j<bs.length:=by omega
   have e1:bs[j]=s:=by rw[qk hj'] at h3;exact Option.some.inj h3
   have e2:bs[i]=s:=by rw[qk hib] at hbi;exact Option.some.inj hbi
   have hpw:=vU.1 hok.nd
   have:j=i:=by
    rcases tH j i with h'|h'|h'
    ·exact absurd (e1.trans e2.symm) (hpw j i hj' hib h')
    ·exact h'
    ·exact absurd (e2.trans e1.symm) (hpw i j hib hj' h')
   subst this;rfl
 have hclk:(ck !=ck)=false:=by simp
 have hkr:=hok.key i (ks.getD i .undef) es[i] (by simp[List.getD,show i<ks.length by omega]) hei;have hvr:=hok.val i (vs.getD i .undef) es[i] (by simp[List.getD,show i<vs.length by omega]) hei;refine⟨.value (.tuple #[es[i].key,es[i].val]),.tuple #[es[i].key,es[i].val],w,E,.tup [ks.getD i .undef,vs.getD i .undef],H,nx,?_,.inl rfl,Ext.refl _ _,hE,hh,hf,pr hkr hvr,h⟩;refine dt ?_;show(Instr.entry (a.eval it)).run P w=_;rw[hvi];unfold Instr.entry;simp only[bj,bz hw rfl,bz hwm rfl,bg,hback,hclk,hfind,cI,if_false,cS]
end Go.Abs
namespace Go.Abs
open Go.RowKit
inductive Opd where
 |t (n:Nat)
 |c (v:AV)
 deriving Inhabited
def Opd.of:Operand→Opd
 |.tmp n=>.t n
 |x=>.c (ev (fun _=>.undef) x)
def ov(T:Tm):Opd→AV
 |.t n=>T n
 |.c v=>v
theorem bm{T:Tm}{x:Operand}:ov T (.of x)=ev T x:=by cases x<;>rfl
theorem gA{T:Tm}{l:List Operand}:(l.map Opd.of).map (ov T)=l.map (ev T):=by simp[bm]
theorem kV{T:Tm}{x:Option Operand}:(x.map Opd.of).map (ov T)=x.map (ev T):=by cases x<;>simp[bm]
inductive Ins where
 |dead
 |mov (x:Opd)
 |pick (c a b:Opd)
 |ld1 (a:Opd)
 |ldn (k:Nat) (a:Opd)
 |nilck (x:Opd)
 |bin (op:BinOp) (tb tf:Bool) (x y:Opd)
 |binS (op:BinOp) (ks:List TK) (x y:Opd)
 |un (op:UnOp) (x:Opd)
 |conv (k:IntKind) (x:Opd)
 |mkfn (f:FuncId) (caps:List Opd)
 |mkbf (f:FuncId) (first:List Opd)
 |slsA (n:Nat) (x:Opd) (lo hi:Option Opd)
 |sls (sz:Nat) (x:Opd) (lo hi mx:Option Opd)
 |slstr (x:Opd) (lo hi:Option Opd)
 |fa (k:Nat) (p:Opd)
 |part1 (off:Nat) (x:Opd)
 |partn (off k:Nat) (x:Opd)
 |ixaA (len sz:Nat) (x i:Opd)
 |ixaS (sz:Nat) (x i:Opd)
 |ixA1 (len sz:Nat) (x i:Opd)
 |ixAn (len sz:Nat) (x i:Opd)
 |ixStr (x i:Opd)
 |ext (x:Opd) (i:Nat)
 |bld (z:List AV) (parts:List (Nat×Nat×Opd))
 |lenS (x:Opd)
 |capE (x:Opd)
 |apz (sz bytes:Nat) (z:List AV) (s x:Opd)
 |lenStr (x:Opd)
 |lenC (n:Nat)
 |mx (x:Opd) (l:List Opd)
 |mn (x:Opd) (l:List Opd)
 |alloc (z:AV)
 |box (x:Opd)
 |bldS (sz len:Nat) (z:List AV) (parts:List (Nat×Nat×Opd))
 |mks (sz bytes:Nat) (z:List AV) (l c:Opd)
 |st (k:Nat) (p x:Opd)
 |app (sz bytes:Nat) (s x:Opd)
 |call (f:Opd) (args:List Opd)
 |mkm (h:Option Opd)
 |mput (k:MK) (m key x:Opd)
 |mdel (k:MK) (m key:Opd)
 |mget (k:MK) (z:AV) (ok:Bool) (m key:Opd)
 |mlen (m:Opd)
 |mrng (m:Opd)
 |mnxt (it:Opd)
 |ment (it:Opd)
 |cpy (sz:Nat) (d s:Opd)
 |clr (sz:Nat) (z:AV) (x:Opd)
 |slp (len sz:Nat) (x:Opd)
 |snil (neg:Bool) (x:Opd)
 |s2b (x:Opd)
 |b2s (x:Opd)
 |mplc (k:MK) (z:AV) (m key:Opd)
 |mpst (m s x:Opd)
def vo(P:Program)(t:TypeId):Bool:=match P.underlying t with|some (.func ..)=>true|_=>false
def bb(op:BinOp)(tb tf:Bool)(x y:AV):Option AV:=
 match x,y with
 |.int k a,.int k' b=>if op=.shl∨op=.shr then lh op k a b else if k=k' then ea op k a b else none
 |.bool a,.bool b=>if tb=true then(match op with|.eql=>some (.bool (a==b))|.neq=>some (.bool (!(a==b)))|_=>none) else none
 |.str a,.str b=>qA op a b
 |.nilf,.nilf=>if tf=true then(match op with|.eql=>some (.bool true)|.neq=>some (.bool false)|_=>none) else none
 |.func _ _,.nilf=>if tf=true then(match op with|.eql=>some (.bool false)|.neq=>some (.bool true)|_=>none) else none
 |_,_=>none
theorem xK{P:Program}{op:BinOp}{t:TypeId}{x y:AV}{r:AV}(h:bb op (uW P t) (vo P t) x y=some r):vE P op t x y=some r:=by
 unfold bb at h;unfold vE;split at h
 ·exact h
 ·exact h
 ·exact h
 ·split at h
  ·rename_i hf;unfold vo at hf;split at hf
   ·rename_i hu;simp only[hu];split at h<;>simp_all
   ·cases hf
  ·cases h
 ·split at h
  ·rename_i hf;unfold vo at hf;split at hf
   ·rename_i hu;simp only[hu];split at h<;>simp_all
   ·cases hf
  ·cases h
 ·cases h
def eH(sz:Nat)(x i:AV):Option AV:=match i with
 |.int _ n=>match x with
  |.sl s elems=>if s=sz∧0≤n∧n<elems.length then some (.iptr (elems.getD n.toNat .undef).cells 0) else none
  |.msl b m s off len=>if s=sz∧0≤n∧n<len then some (.ptr b m (off+n.toNat*s)) else none
  |_=>none
 |_=>none
def tg(sz:Nat)(x:AV)(lo hi mx:Option AV):Option AV:=match x with
 |.sl s elems=>
  match bq 0 lo,bq elems.length hi,mx with
  |some l,some h,none=>if s=sz∧l≤h∧h≤elems.length then some (.sl s ((elems.take h).drop l)) else none
  |some l,some h,some m=>match bq 0 (some m) with
   |some m=>if l=0∧h=0∧m=0 then some .esl else none
   |none=>none
  |_,_,_=>none
 |.esl=>match bq 0 lo,bq 0 hi,mx with
  |some 0,some 0,none=>some .esl
  |_,_,_=>none
 |.msl b n s off len=>
  match bq 0 lo,bq len hi,mx with
  |some l,some h,none=>if s=sz∧l≤h∧h≤len∧n≠0 then(if l=0∨l<h then some (.msl b n s (off+l*s) (h-l)) else some (.sl s [])) else if s=sz∧l<h∧0<s∧off+h*s≤n∧n≠0 then some (.msl b n s (off+l*s) (h-l)) else none
  |some l,some h,some m=>match bq 0 (some m) with
   |some m=>if l=0∧h=0∧m=0 then some .esl else if l≤h∧h≤m∧m≤len∧n≠0 then some .undef else none
   |none=>none
  |_,_,_=>none
 |_=>none
def qy(x:AV)(lo hi:Option AV):Option AV:=match x with
 |.str s=>match bq 0 lo,bq s.size hi with
  |some l,some h=>if l≤h∧h≤s.size then some (.str (s.extract l h)) else none
  |_,_=>none
 |_=>none
def dw(cells:List AV):List (Nat×Nat×AV)→Option (List AV)
 |[]=>some cells
 |(off,size,x)::rest=>if x.flat=true∧x.cells.length=size∧off+size≤cells.length then dw (bv cells off x.cells) rest else none
def di(x:AV)(f:List AV→Option AV):Option AV:=match x with|.agg cs=>f cs|_=>none
def jX(x:AV)(f:Int→Option AV):Option AV:=match x with|.int _ n=>f n|_=>none
def dG(x:AV):Option AV:=match x with
 |.sl _ elems=>some (.int .i64 elems.length)
 |.esl=>some (.int .i64 0)
 |.msl _ _ _ _ len=>some (.int .i64 len)
 |_=>none
def bk(T:Tm)(H:Hp):Ins→Option AV
 |.mov x=>some (ov T x)
 |.pick c a b=>match ov T c with|.bool t=>some (if t=true then ov T a else ov T b)|_=>none
 |.ld1 a=>rd1 H (ov T a)
 |.ldn k a=>(rd H k (ov T a)).map .agg
 |.nilck x=>match ov T x with|.ptr b n o=>some (.ptr b n o)|.iptr c o=>some (.iptr c o)|.func f c=>some (.func f c)|_=>none
 |.bin op tb tf x y=>bb op tb tf (ov T x) (ov T y)
 |.binS op ks x y=>di (ov T x) fun xs=>di (ov T y) fun ys=>ri op ks xs ys
 |.un op x=>aun op (ov T x)
 |.conv k x=>jX (ov T x) fun n=>some (.int k (k.wrap n))
 |.mkfn f caps=>some (.func f (caps.map (ov T)))
 |.mkbf f first=>some (.bfn f (first.map (ov T)))
 |.slsA n x lo hi=>sx n (ov T x) (lo.map (ov T)) (hi.map (ov T)) none
 |.sls sz x lo hi mx=>tg sz (ov T x) (lo.map (ov T)) (hi.map (ov T)) (mx.map (ov T))
 |.slstr x lo hi=>qy (ov T x) (lo.map (ov T)) (hi.map (ov T))
 |.fa k p=>gQ k (ov T p)
 |.part1 off x=>di (ov T x) fun cs=>cs[off]?
 |.partn off k x=>di (ov T x) fun cs=>if off+k≤cs.length then some (.agg ((cs.drop off).take k)) else none
 |.ixaA len sz x i=>jX (ov T i) fun n=>if 0≤n∧n<len then gQ (n.toNat*sz) (ov T x) else none
 |.ixaS sz x i=>eH sz (ov T x) (ov T i)
 |.ixA1 len sz x i=>di (ov T x) fun cs=>jX (ov T i) fun n=>if 0≤n∧n<len then cs[n.toNat*sz]? else none
 |.ixAn len sz x i=>di (ov T x) fun cs=>jX (ov T i) fun n=>if 0≤n∧n<len then(if n.toNat*sz+sz≤cs.length then some (.agg ((cs.drop (n.toNat*sz)).take sz)) else none) else none
 |.ixStr x i=>match ov T x with
  |.str s=>jX (ov T i) fun n=>if 0≤n∧n<s.size then some (.int .u8 (s[n.toNat]?.getD 0).toNat) else none
  |_=>none
 |.ext x i=>fv (ov T x) i
 |.bld z parts=>(dw z (parts.map fun p=>(p.1,p.2.1,ov T p.2.2))).map .agg
 |.lenS x=>dG (ov T x)
 |.capE x=>match ov T x with|.esl=>some (.int .i64 0)|_=>none
 |.lenStr x=>match ov T x with|.str s=>some (.int .i64 s.size)|_=>none
 |.lenC n=>some (.int .i64 n)
 |.mx x l=>fe kH (ov T x) (l.map (ov T))
 |.mn x l=>fe kD (ov T x) (l.map (ov T))
 |_=>none
def AW(sz bytes:Nat)(s x:AV)(H:Hp)(nx:Nat):Option (AV×Hp×Nat):=
 match ee sz H x with
 |none=>none
 |some (k,new)=>
  if new.all AV.one=true then
   match s with
   |.esl=>if k*bytes≤140737488355328∧k≤9223372036854775807 then some (.msl nx (k*sz) sz 0 k,am H nx new,nx+1) else none
   |.msl b n s off len=>match H b with
    |some cs=>
     if cs.length=n∧s=sz then
      if off=0∧n=len*s∧(len+k)*bytes≤140737488355328∧len+k≤9223372036854775807 then some (.msl b ((len+k)*s) s 0 (len+k),am H b (cs++new),nx)
      else if off+(len+k)*s≤n∧0<n then some (.msl b n s off (len+k),am H b (bv cs (off+len*s) new),nx)
      else if off=0∧len*s<n∧n<(len+k)*s∧(len+k)*bytes≤140737488355328∧len+k≤9223372036854775807 then some (.msl b ((len+k)*s) s 0 (len+k),am H b (cs.take (len*s)++new),nx)
      else none
     else none
    |none=>none
   |_=>none
  else none
def gL(T:Tm)(H:Hp)(nx:Nat):Ins→Option (AV×Hp×Nat)
 |.alloc z=>oW z H nx
 |.box x=>oW (ov T x) H nx
 |.bldS sz len z parts=>if len=0 then(if parts.isEmpty=true then some (.esl,H,nx) else none) else
     match dw (bn (.agg z) len) (parts.map fun p=>(p.1,p.2.1,ov T p.2.2)) with
     |some cells=>some (.msl nx cells.length sz 0 len,am H nx cells,nx+1)
     |none=>none
 |.mks sz bytes z l c=>match ov T l,ov T c with
  |.int _ n,.int _ m=>if 0≤n∧n≤m∧m≤9223372036854775807∧bytes*m≤281474976710656 then some (.msl nx (m.toNat*sz) sz 0 n.toNat,am H nx (bn (.agg z) m.toNat),nx+1) else none
  |_,_=>none
 |.st k p x=>match ov T p with
  |.ptr b n off=>match H b with
   |some cs=>if cs.length=n∧(ov T x).flat=true∧(ov T x).cells.length=k∧off+k≤n then some (.tup [],am H b (bv cs off (ov T x).cells),nx) else none
   |none=>none
  |_=>none
 |.app sz bytes s x=>AW sz bytes (ov T s) (ov T x) H nx
 |.apz sz bytes z s x=>match ov T s,ov T x with
  |.esl,.int _ n=>if 0<n∧n≤9223372036854775807∧n.toNat*bytes≤140737488355328 then some (.msl nx (n.toNat*sz) sz 0 n.toNat,am H nx (bn (.agg z) n.toNat),nx+1) else none
  |_,_=>none
 |_=>none
def Aa(lo hi mx:Option Operand):Bool:=!(mx.isSome&&hi.isNone)
def kq(pl:List (Nat×Nat)):List (Nat×Operand)→Option (List (Nat×Nat×Opd))
 |[]=>some []
 |(i,x)::l=>match pl[i]?,kq pl l with
  |some (o,s),some r=>some ((o,s,.of x)::r)
  |_,_=>none
def gC(sz:Nat)(l:List (Nat×Operand)):List (Nat×Nat×Opd):=l.map fun p=>(p.1*sz,sz,.of p.2)
def fF(P:Program):Op→Option Ins
 |.move x=>some (.mov (.of x))
 |.assign x=>some (.mov (.of x))
 |.pick c a b=>some (.pick (.of c) (.of a) (.of b))
 |.load t a=>if tok P t then(if kI P t then(if 0<P.cellsOf t then some (.ldn (P.cellsOf t) (.of a)) else none) else some (.ld1 (.of a))) else none
 |.nilCheck x=>some (.nilck (.of x))
 |.binOp op t x y _=>match eO P t with|some _=>none|none=>match zF P t with|some ks=>some (.binS op ks (.of x) (.of y))|none=>some (.bin op (uW P t) (vo P t) (.of x) (.of y))
 |.unOp op _ x=>some (.un op (.of x))
 |.convert s d x=>if tok P s then(match iA P d with|some k=>some (.conv k (.of x))|none=>none) else none
 |.makeFunc (.func f) first captured=>if first.size=0 then some (.mkfn f (captured.toList.map .of)) else if captured.size=0 then some (.mkbf f (first.toList.map .of)) else none
 | .slice t x lo hi mx=>if Aa lo hi mx then (match P.underlying t with
  |some (.slice e)=>if tok P e then some (.sls (P.cellsOf e) (.of x) (lo.map .of) (hi.map .of) (mx.map .of)) else none
  |some .string=>match mx with|none=>some (.slstr (.of x) (lo.map .of) (hi.map .of))|some _=>none
  |some (.array n e)=>if tok P e=true∧P.cellsOf e=1 then(match mx with|none=>some (.slsA n (.of x) (lo.map .of) (hi.map .of))|some _=>none) else none
  |_=>none) else none
 |.fieldAddr t x f=>match AU P t f with|some k=>some (.fa k (.of x))|none=>none
 |.field t x f=>match P.underlying t with
  |some (.struct fs)=>match fs[f]? with
   |some fd=>if tok P fd.type then(if kI P fd.type then some (.partn fd.offset (P.cellsOf fd.type) (.of x)) else some (.part1 fd.offset (.of x))) else none
   |none=>none
  |_=>none
 |.indexAddr t x i=>match P.underlying t with
  |some (.array len e)=>if tok P e then some (.ixaA len (P.cellsOf e) (.of x) (.of i)) else none
  |some (.slice e)=>if tok P e then some (.ixaS (P.cellsOf e) (.of x) (.of i)) else none
  |_=>none
 |.index t x i=>match P.underlying t with
  |some (.array len e)=>if tok P e then(if kI P e then some (.ixAn len (P.cellsOf e) (.of x) (.of i)) else some (.ixA1 len (P.cellsOf e) (.of x) (.of i))) else none
  |some .string=>some (.ixStr (.of x) (.of i))
  |_=>none
 |.extract x i=>some (.ext (.of x) i)
 |.build t parts=>match dS P t with
  |some z=>if z.flat=true then
   match qw P t with
   |some pl=>match kq pl parts.toList with
    |some ps=>some (.bld z.cells ps)
    |none=>none
   |none=>match tM P t with
    |some (_,e)=>if tok P e=true then some (.bld z.cells (gC (P.cellsOf e) parts.toList)) else none
    |none=>none
   else none
  |none=>none
 |.call {callee:=.builtin .len,args:=⟨[x]⟩,argTypes:=⟨[t]⟩}=>match P.underlying t with
  |some (.slice _)=>some (.lenS (.of x))
  |some .string=>some (.lenStr (.of x))
  |some (.array n _)=>some (.lenC n)
  |_=>none
 |.call {callee:=.builtin .max,args:=⟨x::l⟩,argTypes:=_}=>some (.mx (.of x) (l.map .of))
 |.call {callee:=.builtin .cap,args:=⟨[x]⟩,argTypes:=⟨[t]⟩}=>match eO P t with
  |some _=>some (.capE (.of x))
  |none=>none
 |.call {callee:=.builtin .min,args:=⟨x::l⟩,argTypes:=_}=>some (.mn (.of x) (l.map .of))
 |_=>none
def iR(P:Program):Op→Option Ins
 |.alloc e=>match dS P e with|some z=>some (.alloc z)|none=>none
 |.box _ x=>some (.box (.of x))
 |.buildSlice t len parts=>match eO P t with
  |none=>none
  | some e=>if tok P e=true∧0 < P.cellsOf e∧len * P.cellsOf e ≤ 16777216 then (match dS P e with
   |some z=>if z.flat=true∧z.cells.length=P.cellsOf e then some (.bldS (P.cellsOf e) len z.cells (gC (P.cellsOf e) parts.toList)) else none
   |none=>none) else none
 |.makeSlice t l c=>match eO P t with
  |none=>none
  |some e=>match dS P e with
   |some z=>if tok P e=true∧z.flat=true∧z.cells.length=P.cellsOf e∧0<P.cellsOf e then some (.mks (P.cellsOf e) (dP P e) z.cells (.of l) (.of c)) else none
   |none=>none
 |.store t p x=>if tok P t=true∧0<P.cellsOf t then some (.st (P.cellsOf t) (.of p) (.of x)) else none
 |.call {callee:=.builtin .append,args:=⟨[s,x]⟩,argTypes:=⟨[tS,tX]⟩}=>match eO P tS with
  |none=>none
  | some e=>if tok P e=true∧tok P tX=true∧iA P tX=none∧0 < P.cellsOf e∧zok P e=true then some (.app (P.cellsOf e) (dP P e) (.of s) (.of x)) else if (iA P tX).isSome=true then (match dS P e with
   |some z=>if tok P e=true∧z.flat=true∧z.cells.length=P.cellsOf e∧0<P.cellsOf e∧zok P e=true then some (.apz (P.cellsOf e) (dP P e) z.cells (.of s) (.of x)) else none
   |none=>none) else none
 |_=>none
theorem jH{T:Tm}(pl:List (Nat×Nat)):∀(parts:List (Nat×Operand))(ps:List (Nat×Nat×Opd))(cells:List AV),kq pl parts=some ps→
    fH (fun i=>pl[i]?) cells (parts.map fun p=>(p.1,ev T p.2))=dw cells (ps.map fun p=>(p.1,p.2.1,ov T p.2.2))
 |[],ps,cells,h=>by cases h;rfl
 |(i,x)::l,ps,cells,h=>by
  simp only[kq] at h;split at h
  ·rename_i o s r h1 h2;cases h;simp only[fZ,fH,h1,dw,bm];split
   ·exact jH pl l r _ h2
   ·rfl
  ·cases h
theorem f6{T:Tm}(sz:Nat):∀(parts:List (Nat×Operand))(cells:List AV),
    fH (fun i=>some (i*sz,sz)) cells (parts.map fun p=>(p.1,ev T p.2))=dw cells ((gC sz parts).map fun p=>(p.1,p.2.1,ov T p.2.2))
 |[],cells=>rfl
 |(i,x)::l,cells=>by
  simp only[fZ,fH,dw,gC,bm];split
  ·exact f6 sz l _
  ·rfl
theorem ig(z:AV)(k:Nat):bn (.agg z.cells) k=bn z k:=rfl
theorem qj{P:Program}{op:Op}{i:Ins}{T:Tm}{H:Hp}{r:AV}(hc:fF P op=some i)(h:bk T H i=some r):bX P T H op=some r:=by
 cases op with
 |move x=>cases hc;simp only[bk,bm] at h;exact h
 |assign x=>cases hc;simp only[bk,bm] at h;exact h
 |pick c a b=>cases hc;simp only[bk,bm] at h;exact h
 |load t a=>
  simp only[fF] at hc;simp only[bX,gK];split at hc
  ·rename_i h1;rw[if_pos h1];split at hc
   ·rename_i h2;rw[if_pos h2];split at hc
    ·rename_i h3;rw[if_pos h3];cases hc;simp only[bk,bm] at h;exact h
    ·cases hc
   ·rename_i h2;rw[if_neg h2];cases hc;simp only[bk,bm] at h;exact h
  ·cases hc
 |nilCheck x=>cases hc;simp only[bk,bm] at h;exact h
 |binOp op t x y _=>
  simp only[fF] at hc;split at hc
  ·cases hc
  split at hc
  ·rename_i ks hks;cases hc;simp only[bk,bm] at h;simp only[bX];unfold di at h;split at h
   ·rename_i cs hx;split at h
    ·rename_i cs' hy;rw[hx,hy];simp only[vE,hks];exact h
    ·cases h
   ·cases h
  ·cases hc;simp only[bk,bm] at h;exact xK h
 |unOp op _ x=>cases hc;simp only[bk,bm] at h;exact h
 |convert s d x=>
  simp only[fF] at hc;split at hc
  ·rename_i h1;split at hc
   ·rename_i k hk;cases hc;simp only[bk,bm] at h;simp only[bX,uJ];unfold jX at h;split at h
    ·rename_i hx;simp only[hx,h1,hk,if_true];exact h
    ·cases h
   ·cases hc
  ·cases hc
 |makeFunc fn first captured=>
  cases fn with
  |func f=>
   simp only[fF] at hc;split at hc
   ·rename_i h1;cases hc;simp only[bk,gA] at h;simp only[bX,if_pos h1];exact h
   ·rename_i h1;split at hc
    ·rename_i h2;cases hc;simp only[bk,gA] at h;simp only[bX,if_neg h1,if_pos h2];exact h
    ·cases hc
  |_=>cases hc
 |slice t x lo hi mx=>
  simp only[fF] at hc;split at hc
  ·rename_i hb
   have hb':¬(mx.isSome=true∧hi.isNone=true):=by
    rintro⟨h1,h2⟩;simp[Aa,h1,h2] at hb
   split at hc
   ·rename_i e hu;split at hc
    ·rename_i h1;cases hc;simp only[bk,bm,kV] at h;simp only[bX,if_neg hb',lK,hu,h1,if_true];exact h
    ·cases hc
   ·rename_i hu;split at hc
    ·cases hc;simp only[bk,bm,kV] at h;simp only[bX,if_neg hb',lK,hu];unfold qy at h;split at h
     ·rename_i s hs;rw[hs];simp only[Option.map_none];split at h
      ·rename_i l h' e1 e2;simp only[e1,e2];exact h
      ·cases h
     ·cases h
    ·cases hc
   ·rename_i n e hu;split at hc
    ·rename_i h1;split at hc
     ·cases hc;simp only[bk,bm,kV] at h;simp only[bX,if_neg hb',lK,hu,if_pos h1];exact h
     ·cases hc
    ·cases hc
   ·cases hc
  ·cases hc
 |fieldAddr t x f=>
  simp only[fF] at hc;split at hc
  ·rename_i k hk;cases hc;simp only[bk,bm] at h;simp only[bX,iq,hk];exact h
  ·cases hc
 |field t x f=>
  simp only[fF] at hc;split at hc
  ·rename_i fs hu;split at hc
   ·rename_i fd hfd;split at hc
    ·rename_i h1;split at hc
     ·rename_i h2;cases hc;simp only[bk,bm] at h;unfold di at h;split at h
      ·rename_i cs hx;simp only[bX,nG,hx,hu,hfd,apart,h1,h2,if_true];exact h
      ·cases h
     ·rename_i h2;cases hc;simp only[bk,bm] at h;unfold di at h;split at h
      ·rename_i cs hx;simp only[bX,nG,hx,hu,hfd,apart,h1,h2,if_true];exact h
      ·cases h
    ·cases hc
   ·cases hc
  ·cases hc
 |indexAddr t x i=>
  simp only[fF] at hc;split at hc
  ·rename_i len e hu;split at hc
   ·rename_i h1;cases hc;simp only[bk,bm] at h;unfold jX at h;split at h
    ·rename_i n hn;simp only[bX,f5,hn,hu,h1,true_and];exact h
    ·cases h
   ·cases hc
  ·rename_i e hu;split at hc
   ·rename_i h1;cases hc;simp only[bk,bm] at h;unfold eH at h;split at h
    ·rename_i n hn;simp only[bX,f5,hn,hu,h1,if_true];split at h
     ·rename_i s elems hx;simp only[hx];split at h
      ·rename_i hb;obtain⟨b1,b2,b3⟩:=hb;rw[if_pos ⟨b1,b2⟩];have hlt:n.toNat<elems.length:=by omega
       rw[qk hlt];simp only[List.getD,qk hlt,tF] at h;exact h
      ·cases h
     ·rename_i hx;simp only[hx];exact h
     ·cases h
    ·cases h
   ·cases hc
  ·cases hc
 |index t x i=>
  simp only[fF] at hc;split at hc
  ·rename_i len e hu;have hta:tM P t=some (len,e):=by simp[tM,hu]
   split at hc
   ·rename_i h1;split at hc
    ·rename_i h2;cases hc;simp only[bk,bm] at h;unfold di at h;split at h
     ·rename_i cs hx;unfold jX at h;split at h
      ·rename_i n hn;simp only[bX,la,hx,hn,hta,apart,h1,h2,if_true];exact h
      ·cases h
     ·cases h
    ·rename_i h2;cases hc;simp only[bk,bm] at h;unfold di at h;split at h
     ·rename_i cs hx;unfold jX at h;split at h
      ·rename_i n hn;simp only[bX,la,hx,hn,hta,apart,h1,h2,if_true];exact h
      ·cases h
     ·cases h
   ·cases hc
  ·rename_i hu;cases hc;simp only[bk,bm] at h;split at h
   ·rename_i s hs;unfold jX at h;split at h
    ·rename_i n hn;simp only[bX,la,hs,hn,hu];simp only at h;split at h
     ·rename_i hb;rw[if_pos hb.1];have hlt:n.toNat<s.size:=by omega
      have e:s[n.toNat]?=some s[n.toNat]:=by simp[hlt]
      rw[e] at h ⊢;exact h
     ·cases h
    ·cases h
   ·cases h
  ·cases hc
 |extract x i=>cases hc;simp only[bk,bm] at h;exact h
 |build t parts=>
  simp only[fF] at hc;split at hc
  ·rename_i z hz;split at hc
   ·rename_i hf;split at hc
    ·rename_i pl hpl;split at hc
     ·rename_i ps hps;cases hc;simp only[bk] at h;rw[←jH pl _ _ _ hps] at h;simp only[bX,nF,hz,hpl,if_pos hf];exact h
     ·cases hc
    ·rename_i hpl;split at hc
     ·rename_i k e hta;split at hc
      ·rename_i h1;cases hc;simp only[bk] at h;rw[←f6] at h;simp only[bX,nF,hz,hpl,if_pos hf,hta,if_pos h1];exact h
      ·cases hc
     ·cases hc
   ·cases hc
  ·cases hc
 |call c=>
  obtain⟨callee,args,argTypes⟩:=c;cases callee with
  |builtin b=>
   obtain⟨args⟩:=args;obtain⟨argTypes⟩:=argTypes;cases b with
   |len=>
    rcases args with _|⟨x,_|⟨y,l⟩⟩
    ·cases hc
    ·rcases argTypes with _|⟨t,_|⟨u,l⟩⟩
     ·cases hc
     ·simp only[fF] at hc;split at hc
      ·rename_i e hu;cases hc;simp only[bk,bm] at h;unfold dG at h;simp only[bX,vu,hu];split at h<;>rename_i hx<;>first|(simp only[hx];exact h)|cases h
      ·rename_i hu;cases hc;simp only[bk,bm] at h;simp only[bX,vu,hu];split at h<;>rename_i hx<;>first|(simp only[hx];exact h)|cases h
      ·rename_i n e hu;cases hc;simp only[bk] at h;simp only[bX,vu,hu];exact h
      ·cases hc
     ·cases hc
    ·cases hc
   |max=>
    rcases args with _|⟨x,l⟩
    ·cases hc
    ·cases hc;simp only[bk,bm,gA] at h;exact h
   |cap=>
    rcases args with _|⟨x,_|⟨y,l⟩⟩
    ·cases hc
    ·rcases argTypes with _|⟨t,_|⟨u,l⟩⟩
     ·cases hc
     ·simp only[fF] at hc;split at hc
      ·rename_i e he;cases hc;simp only[bk,bm] at h;simp only[bX,he];split at h<;>rename_i hx<;>first|(simp only[hx];exact h)|cases h
      ·cases hc
     ·cases hc
    ·cases hc
   |min=>
    rcases args with _|⟨x,l⟩
    ·cases hc
    ·cases hc;simp only[bk,bm,gA] at h;exact h
   |_=>cases hc
  |_=>cases hc
 |_=>cases hc
theorem uO{P:Program}{op:Op}{i:Ins}{T:Tm}{H:Hp}{nx:Nat}{r:AV×Hp×Nat}(hc:iR P op=some i)(h:gL T H nx i=some r):d9 P T H nx op=some r:=by
 cases op with
 |alloc e=>
  simp only[iR] at hc;split at hc
  ·rename_i z hz;cases hc;simp only[d9,nB,hz];exact h
  ·cases hc
 |box _ x=>cases hc;simp only[gL,bm] at h;exact h
 |buildSlice t len parts=>
  simp only[iR] at hc;split at hc
  ·cases hc
  ·rename_i e he;split at hc
   ·rename_i h1;split at hc
    ·rename_i z hz;split at hc
     ·rename_i h2;cases hc;simp only[gL] at h;simp only[d9,kJ,he,if_pos h1];split at h
      ·rename_i hl;rw[if_pos hl];split at h
       ·rename_i hp
        have:parts.toList=[]:=by
         unfold gC at hp;simpa using hp
        rw[this];exact h
       ·cases h
      ·rename_i hl;rw[if_neg hl];simp only[hz,if_pos h2];rw[ig,←f6] at h;exact h
     ·cases hc
    ·cases hc
   ·cases hc
 |makeSlice t l c=>
  simp only[iR] at hc;split at hc
  ·cases hc
  ·rename_i e he;split at hc
   ·rename_i z hz;split at hc
    ·rename_i h1;cases hc;simp only[gL,bm] at h;split at h
     ·rename_i k n k' m hl hm;split at h
      ·rename_i hb;simp only[d9,rb,he,hl,hm,hz];rw[if_pos ⟨h1.1,h1.2.1,h1.2.2.1,h1.2.2.2,hb.1,hb.2.1,hb.2.2.1,hb.2.2.2⟩];rw[ig] at h;exact h
      ·cases h
     ·cases h
    ·cases hc
   ·cases hc
 |store t p x=>
  simp only[iR] at hc;split at hc
  ·rename_i h1;cases hc;simp only[gL,bm] at h;split at h
   ·rename_i b n off hp;split at h
    ·rename_i cs hb;split at h
     ·rename_i h2;simp only[d9,lF,hp,hb];rw[if_pos ⟨h2.1,h1.1,h2.2.1,h2.2.2.1,h2.2.2.2,h1.2⟩];exact h
     ·cases h
    ·cases h
   ·cases h
  ·cases hc
 |call c=>
  obtain⟨callee,args,argTypes⟩:=c;cases callee with
  |builtin b=>
   obtain⟨args⟩:=args;obtain⟨argTypes⟩:=argTypes;cases b with
   |append=>
    rcases args with _|⟨x,_|⟨y,_|⟨z,l⟩⟩⟩
    ·cases hc
    ·cases hc
    ·rcases argTypes with _|⟨t,_|⟨u,_|⟨v,l⟩⟩⟩
     ·cases hc
     ·cases hc
     ·simp only[iR] at hc;split at hc
      ·cases hc
      ·rename_i e he;split at hc
       ·rename_i h1;cases hc;simp only[gL,bm] at h;simp only[d9,h1.2.2.1,Option.isSome_none,cI,if_false];simp only[kw,he,if_pos h1];exact h
       ·split at hc
        ·rename_i hti;obtain⟨kx,hkx⟩:=xG.1 hti;split at hc
         ·rename_i z hz;split at hc
          ·rename_i h2;cases hc;simp only[gL,bm] at h;split at h
           ·rename_i kn n hs hx;split at h
            ·rename_i h3;simp only[d9,hkx,Option.isSome_some,if_true,sT,he,hs,hx,hz];rw[if_pos ⟨h2.1,h2.2.1,h2.2.2.1,h2.2.2.2.1,h2.2.2.2.2,h3.1,h3.2.1,h3.2.2⟩];rw[ig] at h;exact h
            ·cases h
           ·cases h
          ·cases hc
         ·cases hc
        ·cases hc
     ·cases hc
    ·cases hc
   |_=>cases hc
  |_=>cases hc
 |_=>cases hc
def isp(i:Ins)(T:Tm)(H:Hp)(nx:Nat)(K:AV→Hp→Nat→Prop):Prop:=match i with
 |.mkm h=>(h=none∨ ∃x k n,h=some x∧ov T x=.int k n)∧(K (.mp nx) (am H nx [.omap [] []]) (nx+1)∨K (.mp nx) (am H nx [.bmap [] [] [] 0]) (nx+1))
 |.mput k m key x=>(∃b ks vs r,ov T m=.mp b∧H b=some [.omap ks vs]∧je k (ov T key)=true∧cR k (ov T key) ks=some r∧K (.tup []) (am H b [.omap (cW (ov T key) r ks) (fw (ov T x) r vs)]) nx)∨
     ∃b ks vs bs ck r,ov T m=.mp b∧H b=some [.bmap ks vs bs ck]∧je k (ov T key)=true∧cR k (ov T key) ks=some r∧K (.tup []) (am H b [.bmap (cW (ov T key) r ks) (fw (ov T x) r vs) (m8 ck r bs) (rl ck r)]) nx
 |.mdel k m key=>∃b ks vs bs ck r,ov T m=.mp b∧H b=some [.bmap ks vs bs ck]∧je k (ov T key)=true∧cR k (ov T key) ks=some r∧K (.tup []) (am H b [.bmap (kG r ks) (kG r vs) (kG r bs) ck]) nx
 |.mget k z ok m key=>(∃b ks vs r,ov T m=.mp b∧H b=some [.omap ks vs]∧je k (ov T key)=true∧cR k (ov T key) ks=some r∧K (Go.Abs.mget z ok r vs) H nx)∨
     ∃b ks vs bs ck r,ov T m=.mp b∧H b=some [.bmap ks vs bs ck]∧je k (ov T key)=true∧cR k (ov T key) ks=some r∧K (Go.Abs.mget z ok r vs) H nx
 |.mlen m=>(∃b ks vs,ov T m=.mp b∧H b=some [.omap ks vs]∧K (.int .i64 ks.length) H nx)∨ ∃b ks vs bs ck,ov T m=.mp b∧H b=some [.bmap ks vs bs ck]∧K (.int .i64 ks.length) H nx
 |.mrng m=>(∃b ks vs,ov T m=.mp b∧H b=some [.omap ks vs]∧K (.itr nx) (am H nx [.oiter b ks.length []]) (nx+1))∨ ∃b ks vs bs ck,ov T m=.mp b∧H b=some [.bmap ks vs bs ck]∧K (.itr nx) (am H nx [.biter b ck []]) (nx+1)
 | .mnxt it=>(∃ b m n0 seen ks vs,ov T it=.itr b∧H b=some [.oiter m n0 seen]∧H m=some [.omap ks vs]∧ks.length=n0 ∧
     (∀i,i<ks.length→i∉seen→K (.tup [.bool true,ks.getD i .undef,vs.getD i .undef]) (am H b [.oiter m n0 (seen++[i])]) nx)∧
     ((∀i,i<n0→i<ks.length→i∈seen)→K (.tup [.bool false]) H nx))∨
     ∃(b m ck:Nat)(seen:List Nat)(ks vs:List AV)(bs:List Nat),ov T it=.itr b∧H b=some [.biter m ck seen]∧H m=some [.bmap ks vs bs ck]∧
     (∀(i s:Nat),bs[i]?=some s→s∉seen→K (.tup [.bool true,ks.getD i .undef,vs.getD i .undef]) (am H b [.biter m ck (seen++[s])]) nx)∧
     ((∀s∈bs,s∈seen)→K (.tup [.bool false]) H nx)
 |.ment it=>(∃b m n0 i seen ks vs,ov T it=.itr b∧H b=some [.oiter m n0 seen]∧H m=some [.omap ks vs]∧ks.length=n0∧seen.getLast?=some i∧i<ks.length∧K (.tup [ks.getD i .undef,vs.getD i .undef]) H nx)∨
     ∃(b m ck i s:Nat)(seen:List Nat)(ks vs:List AV)(bs:List Nat),ov T it=.itr b∧H b=some [.biter m ck seen]∧H m=some [.bmap ks vs bs ck]∧seen.getLast?=some s∧bs[i]?=some s∧K (.tup [ks.getD i .undef,vs.getD i .undef]) H nx
 |.cpy sz d s=>∃n H',xp sz (ov T d) (ov T s) H=some (n,H')∧K (.int .i64 n) H' nx
 |.clr sz z x=>∃H',lN sz z (ov T x) H=some H'∧K (.tup []) H' nx
 |.slp len sz x=>∃(b n off:Nat)(cs:List AV),ov T x=.ptr b n off∧H b=some cs∧cs.length=n∧off+len*sz=n∧K (.msl b n sz off len) H nx
 |.snil neg x=>∃k,jG (ov T x)=some k∧uG neg k fun r=>K r H nx
 |.s2b x=>∃bs:ByteArray,ov T x=.str bs∧(bs.size=0→K (.sl 1 []) H nx)∧(bs.size≠0→K (.msl nx bs.size 1 0 bs.size) (am H nx (bs.data.toList.map lu)) (nx+1))
 |.b2s x=>∃(n:Nat)(bs:List UInt8),ee 1 H (ov T x)=some (n,bs.map lu)∧K (.str ⟨bs.toArray⟩) H nx
 |.mplc k z m key=>∃b ks vs r,ov T m=.mp b∧H b=some [.omap ks vs]∧je k (ov T key)=true∧cR k (ov T key) ks=some r∧K (.tup [Am z r vs,.int .i64 (yF r ks)]) (am H b [.omap (cW (ov T key) r ks) (tw z r vs)]) nx
 |.mpst m s x=>∃(b:Nat)(ks vs:List AV)(i:Nat),ov T m=.mp b∧H b=some [.omap ks vs]∧ov T s=.int .i64 (i:Int)∧i<ks.length∧K (.tup []) (am H b [.omap ks (vs.set i (ov T x))]) nx
 |_=>False
def nW(P:Program):Op→Option Ins
 |.makeMap t r=>match fC P t with|some _=>some (.mkm (r.map .of))|none=>none
 |.mapUpdate t m k x=>match fC P t with
  |some (kt,_)=>(mkk P kt).map fun mk=>.mput mk (.of m) (.of k) (.of x)
  |none=>none
 |.insert t m k x=>match fC P t with
  |some (kt,_)=>(mkk P kt).map fun mk=>.mput mk (.of m) (.of k) (.of x)
  |none=>none
 |.lookup t m k ok=>match fC P t with
  |some (kt,et)=>match mkk P kt,dS P et with
   |some mk,some z=>some (.mget mk z ok (.of m) (.of k))
   |_,_=>none
  |none=>none
 |.range t m=>match fC P t with|some _=>some (.mrng (.of m))|none=>none
 |.next it false=>some (.mnxt (.of it))
 |.entry it=>some (.ment (.of it))
 |.call {callee:=.builtin .len,args:=⟨[x]⟩,argTypes:=⟨[t]⟩}=>match fC P t with|some _=>some (.mlen (.of x))|none=>none
 |.call {callee:=.builtin .delete,args:=⟨[m,k]⟩,argTypes:=⟨[t,_]⟩}=>match fC P t with
  |some (kt,_)=>(mkk P kt).map fun mk=>.mdel mk (.of m) (.of k)
  |none=>none
 |.binOp .eql t x (.const (.slice none 0 0)) _=>match eO P t with|some _=>some (.snil false (.of x))|none=>none
 |.binOp .neq t x (.const (.slice none 0 0)) _=>match eO P t with|some _=>some (.snil true (.of x))|none=>none
 |.call {callee:=.builtin .copy,args:=⟨[d,s]⟩,argTypes:=⟨[tD,_]⟩}=>match eO P tD with
  |some e=>if tok P e=true then some (.cpy (P.cellsOf e) (.of d) (.of s)) else none
  |none=>none
 |.call {callee:=.builtin .clear,args:=⟨[x]⟩,argTypes:=⟨[t]⟩}=>match eO P t with
  |some e=>match dS P e with
   |some z=>if 0<P.cellsOf e then some (.clr (P.cellsOf e) z (.of x)) else none
   |none=>none
  |none=>none
 |.convert s d x=>match P.underlying s,P.underlying d with
  |some .string,some (.slice e)=>if iA P e=some .u8 then some (.s2b (.of x)) else none
  |some (.slice e),some .string=>if iA P e=some .u8 then some (.b2s (.of x)) else none
  |_,_=>none
 |.mapEntry t m k=>match fC P t with
  |some (kt,et)=>match mkk P kt,dS P et with
   |some mk,some z=>some (.mplc mk z (.of m) (.of k))
   |_,_=>none
  |none=>none
 |.entryStore _ m s x=>some (.mpst (.of m) (.of s) (.of x))
 |.slice t x none none none=>match P.underlying t with
  |some (.array n e)=>if tok P e=true∧0<n then some (.slp n (P.cellsOf e) (.of x)) else none
  |_=>none
 |_=>none
theorem Au{P:Program}{op:Op}{i:Ins}{T:Tm}{H:Hp}{nx:Nat}{K:AV→Hp→Nat→Prop}(hc:nW P op=some i)(h:isp i T H nx K):ce P op T H nx K:=by
 have put:∀t m k x,nW P (.mapUpdate t m k x)=some i→isp i T H nx K→ce P (.mapUpdate t m k x) T H nx K:=by
  intro t m k x hc h;simp only[nW] at hc;split at hc
  ·rename_i kt et ht;cases hk:mkk P kt with
   |none=>rw[hk] at hc;cases hc
   |some mk=>
    rw[hk] at hc;cases hc;rcases h with⟨b,ks,vs,r,h1,h2,h3,h4,h5⟩|⟨b,ks,vs,bs,ck,r,h1,h2,h3,h4,h5⟩
    ·simp only[bm] at h1 h3 h4 h5;exact mh ht hk h1 h2 h3 h4 h5
    ·simp only[bm] at h1 h3 h4 h5;exact kQ ht hk h1 h2 h3 h4 h5
  ·cases hc
 unfold nW at hc;split at hc
 ·rename_i t r;split at hc
  ·rename_i p ht;cases hc;obtain⟨h1,h2⟩:=h
   have h4:r=none∨ ∃x n k p,r=some x∧ev T x=.int k n∧fC P t=some p:=by
    rcases h1 with h1|⟨x,k,n,h1,h3⟩
    ·cases r with
     |none=>exact .inl rfl
     |some r=>cases h1
    ·cases r with
     |none=>cases h1
     |some r=>cases h1;rw[bm] at h3;exact .inr ⟨r,n,k,p,rfl,h3,ht⟩
   rcases h2 with h2|h2
   ·exact oO h4 h2
   ·exact nN h4 h2
  ·cases hc
 ·rename_i t m k x;exact put t m k x hc h
 ·rename_i t m k x;exact qH (put t m k x hc h)
 ·rename_i t m k ok;split at hc
  ·rename_i kt et ht;split at hc
   ·rename_i mk z hk hz;cases hc;rcases h with⟨b,ks,vs,r,h1,h2,h3,h4,h5⟩|⟨b,ks,vs,bs,ck,r,h1,h2,h3,h4,h5⟩
    ·simp only[bm] at h1 h3 h4;exact kj ht hk hz h1 h2 h3 h4 h5
    ·simp only[bm] at h1 h3 h4;exact jP ht hk hz h1 h2 h3 h4 h5
   ·cases hc
  ·cases hc
 ·rename_i t m;split at hc
  ·rename_i p ht;cases hc;rcases h with⟨b,ks,vs,h1,h2,h3⟩|⟨b,ks,vs,bs,ck,h1,h2,h3⟩
   ·rw[bm] at h1;exact qx ht h1 h2 h3
   ·rw[bm] at h1;exact pb ht h1 h2 h3
  ·cases hc
 ·cases hc;rcases h with⟨b,m,n0,seen,ks,vs,h1,h2,h3,h4,h5,h6⟩|⟨b,m,ck,seen,ks,vs,bs,h1,h2,h3,h5,h6⟩
  ·rw[bm] at h1;exact sW h1 h2 h3 h4 h5 h6
  ·rw[bm] at h1;exact qp h1 h2 h3 h5 h6
 ·cases hc;rcases h with⟨b,m,n0,i,seen,ks,vs,h1,h2,h3,h4,h5,h6,h7⟩|⟨b,m,ck,i,s,seen,ks,vs,bs,h1,h2,h3,h5,h6,h7⟩
  ·rw[bm] at h1;exact qq h1 h2 h3 h4 h5 h6 h7
  ·rw[bm] at h1;exact oU h1 h2 h3 h5 h6 h7
 ·rename_i x t;split at hc
  ·rename_i p ht;cases hc;rcases h with⟨b,ks,vs,h1,h2,h3⟩|⟨b,ks,vs,bs,ck,h1,h2,h3⟩
   ·rw[bm] at h1;exact tZ ht h1 h2 h3
   ·rw[bm] at h1;exact rY ht h1 h2 h3
  ·cases hc
 ·rename_i m k t tk;split at hc
  ·rename_i kt et ht;cases hk:mkk P kt with
   |none=>rw[hk] at hc;cases hc
   |some mk=>
    rw[hk] at hc;cases hc;obtain⟨b,ks,vs,bs,ck,r,h1,h2,h3,h4,h5⟩:=h;simp only[bm] at h1 h3 h4 h5;exact o9 ht hk h1 h2 h3 h4 h5
  ·cases hc
 ·rename_i t x ty;split at hc
  ·rename_i e ht;cases hc;obtain⟨k,h1,h2⟩:=h;rw[bm] at h1;exact nb (neg:=false) ht h1 h2
  ·cases hc
 ·rename_i t x ty;split at hc
  ·rename_i e ht;cases hc;obtain⟨k,h1,h2⟩:=h;rw[bm] at h1;exact nb (neg:=true) ht h1 h2
  ·cases hc
 ·rename_i d s tD tS;split at hc
  ·rename_i e ht;split at hc
   ·rename_i hte;cases hc;obtain⟨n,H',h1,h2⟩:=h;simp only[bm] at h1;exact tC ht hte h1 h2
   ·cases hc
  ·cases hc
 ·rename_i x t;split at hc
  ·rename_i e ht;split at hc
   ·rename_i z hz;split at hc
    ·rename_i hpos;cases hc;obtain⟨H',h1,h2⟩:=h;simp only[bm] at h1;exact sq ht hz h1 hpos h2
    ·cases hc
   ·cases hc
  ·cases hc
 ·rename_i s d x
  have tu:∀{e},iA P e=some .u8→P.underlying e=some (.int .u8):=fun{e} h=>by
   unfold iA at h;split at h
   ·rename_i hu;cases h;exact hu
   ·cases h
  split at hc
  ·rename_i e hs hd;split at hc
   ·rename_i he;cases hc;obtain⟨bs,h1,h2,h3⟩:=h;rw[bm] at h1;exact wJ hs hd (tu he) h1 h2 h3
   ·cases hc
  ·rename_i e hs hd;split at hc
   ·rename_i he;cases hc;obtain⟨n,bs,h1,h2⟩:=h;rw[bm] at h1;exact wU hs (tu he) hd h1 h2
   ·cases hc
  ·cases hc
 ·rename_i t m k;split at hc
  ·rename_i kt et ht;split at hc
   ·rename_i mk z hk hz;cases hc;obtain⟨b,ks,vs,r,h1,h2,h3,h4,h5⟩:=h;simp only[bm] at h1 h3 h4 h5;exact oz ht hk hz h1 h2 h3 h4 h5
   ·cases hc
  ·cases hc
 ·cases hc;obtain⟨b,ks,vs,i,h1,h2,h3,h4,h5⟩:=h;simp only[bm] at h1 h3 h5;exact lq h1 h2 h3 h4 h5
 ·rename_i t x;split at hc
  ·rename_i n e hu;split at hc
   ·rename_i hce;cases hc;obtain⟨b,n',off,cs,h1,h2,h3,h4,h5⟩:=h;rw[bm] at h1;exact vL hu hce.1 hce.2 h1 h2 h3 h4 h5
   ·cases hc
  ·cases hc
 ·cases hc
end Go.Abs
namespace Go.Abs
open Go.RowKit
structure Op2 where
 d:Option Nat
 g:Option (Nat×Bool)
 i:Ins
inductive C2 where
 |skip
 |ops (m:Nat) (l:List Op2)
 |mix (m:Nat) (l:List Op2) (C:List Nat)
 |mixS (m:Nat) (l:List Op2) (C:List (Nat×Nat))
 |mixF (l:List Op2) (f:Nat×Nat) (C D:List (Nat×Nat))
 |seq (a b:C2)
 |cond (c:Opd) (a b:C2)
 |block (id:Nat) (b:C2)
 |loop (b:C2)
 |exit (id:Nat)
 |ret
 |rangeF (g:Opd) (ps:List Nat) (a b:C2)
inductive IC where
 |val|eff|call|sp
 deriving DecidableEq
def ic:Ins→IC
 |.alloc _|.box _|.bldS .. |.mks .. |.st .. |.app .. |.apz ..=>.eff
 |.call ..=>.call
 |.mkm .. |.mput .. |.mdel .. |.mget .. |.mlen _|.mrng _|.mnxt _|.ment _|.cpy .. |.clr .. |.snil .. |.s2b _|.b2s _|.mplc .. |.mpst .. |.slp ..=>.sp
 |_=>.val
def rI(m:Nat)(p:AV):Bool:=match p with|.ptr b _ _=>b<m|_=>true
def wa(m:Nat)(p:AV):Bool:=match p with|.ptr b _ _=>m≤b|_=>true
def dm2(dm:DM)(T:Tm)(i:Ins):Bool:=match dm with
 |.fresh m=>match i with
  |.ld1 a=>rI m (ov T a)
  |.ldn _ a=>rI m (ov T a)
  |.st _ p _=>wa m (ov T p)
  |.app ..=>false
  |.apz ..=>false
  |_=>true
 |_=>true
def bh(P:Program)(dm:DM)(i:Ins)(T:Tm)(H:Hp)(nx:Nat)(K:AV→Hp→Nat→Prop):Prop:=
 match ic i with
 |.val=>aU (dm2 dm T i) (aB (bk T H i) fun r=>K r H nx)
 |.eff=>aU (dm2 dm T i) (aB (gL T H nx i) fun x=>K x.1 x.2.1 x.2.2)
 |.call=>match i with
  | .call f args=>(aB (kA (ov T f)) fun y=>match dm.isText with
   |false=>aZ P y.1 (args.map (ov T)++y.2) H fun r=>K r H nx
   |true=>Fn P y.1 (args.map (ov T)++y.2) H nx K)∨(dm.isText=true∧((∃b,ov T f=.yld b∧Yl P b (args.map (ov T)) H nx K)∨ ∃g fs,ov T f=.bfn g fs∧Fn P g (fs++args.map (ov T)) H nx K))
  |_=>False
 |.sp=>dm.isText=true∧isp i T H nx K
def g2(T:Tm):Option (Nat×Bool)→Option Bool
 |none=>some true
 |some (t,want)=>match T t with
  |.bool b=>some (b==want)
  |.tup []=>some false
  |_=>none
def al(P:Program)(dm:DM):List Op2→Tm→Hp→Nat→SP→Prop
 |[],T,H,nx,K=>K T H nx
 |o::l,T,H,nx,K=>aX (g2 T o.g) (bh P dm o.i T H nx fun r H nx=>al P dm l (aH T o.d r) H nx K) (al P dm l (aH T o.d (.tup [])) H nx K)
def pd(T:Tm):Ins→Option AV
 |.bldS sz len z parts=>nc (gL T bA 0 (.bldS sz len z parts))
 |_=>none
def lkS(mk:MK)(z:AV)(ok:Bool)(mv kv:AV)(S:Hp):Option AV:=match mv with
 |.mp b=>match S b with
  |some [.omap ks vs]=>if je mk kv=true then(match cR mk kv ks with|some r=>some (mget z ok r vs)|none=>none) else none
  |some [.bmap ks vs _ _]=>if je mk kv=true then(match cR mk kv ks with|some r=>some (mget z ok r vs)|none=>none) else none
  |_=>none
 |_=>none
def ilk(T:Tm)(S:Hp):Ins→Option AV
 |.mget mk z ok m key=>lkS mk z ok (ov T m) (ov T key) S
 |_=>none
def be(P:Program)(S:Hp):List (Op2×Nat)→Tm→Hp→Nat→SP→Prop
 |[],T,H,nx,K=>K T H nx
 |(o,0)::l,T,H,nx,K=>aX (g2 T o.g) (aB (bk T S o.i) fun r=>be P S l (aH T o.d r) H nx K) (be P S l (aH T o.d (.tup [])) H nx K)
 |(o,k+1)::l,T,H,nx,K=>aX (g2 T o.g) (if k=2 then aB (pd T o.i) fun r=>be P S l (aH T o.d r) H nx K else if k=3 then aB (ilk T S o.i) fun r=>be P S l (aH T o.d r) H nx K else bh P .text o.i T H nx fun r H' nx'=>(k=0→Sub S H')∧be P S l (aH T o.d r) H' nx' K) (be P S l (aH T o.d (.tup [])) H nx K)
def jQ(P:Program)(S:Hp)(f:Op2×Nat)(l2:List (Op2×Nat)):List (Op2×Nat)→Tm→Hp→Nat→SP→Prop
 |[],T,H,nx,K=>be P S (f::l2) T H nx K
 |x::l,T,H,nx,K=>(x.2=1∨x.2=2→be P S (f::x::(l++l2)) T H nx K)∧be P S [x] T H nx fun T H nx=>jQ P S f l2 l T H nx K
def aG(P:Program):C2→Tm→Hp→Nat→CP→Prop
 |.skip,T,H,nx,K=>K .normal T H nx
 |.ops m l,T₀,H₀,nx₀,K=>∃T H nx Hf,Gh T₀ H₀ nx₀ T H nx Hf∧al P (match m with|0=>.text|1=>.draw|_=>.fresh nx) l T H nx (K .normal)
 |.mix m l C,T₀,H₀,nx₀,K=>(m≠9∧∃T H nx Hf,Gh T₀ H₀ nx₀ T H nx Hf∧al P (match m with|1=>.draw|_=>.fresh nx) l T H nx (K .normal))∨
     ∃T H nx Hf,Gh T₀ H₀ nx₀ T H nx Hf∧al P .text (C.map fun k=>l.getD k ⟨none,none,.dead⟩) T H nx (K .normal)
 |.mixS m l C,T₀,H₀,nx₀,K=>(m≠9∧∃T H nx Hf,Gh T₀ H₀ nx₀ T H nx Hf∧al P (match m with|1=>.draw|_=>.fresh nx) l T H nx (K .normal))∨
     ∃T H nx Hf S,Gh T₀ H₀ nx₀ T H nx Hf∧Sub S H∧be P S (C.map fun k=>(l.getD k.1 ⟨none,none,.dead⟩,k.2)) T H nx (K .normal)
 |.mixF l f C D,T₀,H₀,nx₀,K=>∃T H nx Hf S,Gh T₀ H₀ nx₀ T H nx Hf∧Sub S H∧jQ P S (l.getD f.1 ⟨none,none,.dead⟩,f.2) (D.map fun k=>(l.getD k.1 ⟨none,none,.dead⟩,k.2)) (C.map fun k=>(l.getD k.1 ⟨none,none,.dead⟩,k.2)) T H nx (K .normal)
 |.seq x y,T,H,nx,K=>aG P x T H nx fun e T H nx=>aV e (aG P y T H nx K) (K e T H nx)
 |.cond c x y,T,H,nx,K=>a9 (ov T c) (aG P x T H nx K) (aG P y T H nx K)
 |.block id b,T,H,nx,K=>aG P b T H nx fun e T H nx=>K (lj id e) T H nx
 |.loop b,T,H,nx,K=>a7 (aG P b) T H nx K
 |.exit id,T,H,nx,K=>K (.exit id) T H nx
 |.ret,T,H,nx,K=>K .ret T H nx
 |.rangeF g ps a b,T,H,nx,K=>∃f caps,ov T g=.func f caps∧∀(c0:AV)(cj:AEx→AV),
     (∀ (args:List AV) (H':Hp) (nx':Nat) (K':AV→Hp→Nat→Prop),H' nx=some [c0]→args.length=ps.length →
      aG P a (gZ T ps args) H' nx' (fun e T2 H2 nx2=>aV e (H2 nx=some [c0]∧aG P b T2 (dv H2 nx) nx2 fun e T3 H3 nx3=>aV e (K' (.bool true) (am H3 nx [c0]) nx3) (K' (.bool false) (am H3 nx [cj e]) nx3)) False)→
      Yl P nx args H' nx' K')→
     Fn P f (.yld nx::caps) (am H nx [c0]) (nx+1) fun _ H' nx'=>(H' nx=some [c0]∧K .normal T (dv H' nx) nx')∨ ∃e,e≠.normal∧H' nx=some [cj e]∧K e T (dv H' nx) nx'
def ph:Op→Option IC
 |.call {callee:=.value _,..}=>some .call
 |op=>match opk op with
  |.pure|.touch=>some .val
  |.alloc|.write=>some .eff
  |.other=>none
def eK(P:Program)(op:Op):Option Ins:=match ph op with
 |some .call=>match iH op with
  |some (f,args)=>some (.call (.of f) (args.toList.map .of))
  |none=>none
 |some .val=>match fF P op with
  |some i=>if ic i=.val then some i else none
  |none=>none
 |some .eff=>match iR P op with
  |some i=>if ic i=.eff then some i else none
  |none=>none
 |_=>none
def dH(P:Program)(op:Op):Ins:=match eK P op with
 |some i=>i
 |none=>match nW P op with
  |some i=>if ic i=.sp then i else .dead
  |none=>.dead
def x9(dsts:List (Option Nat)):Option (Nat×Bool)→Option (Option (Nat×Bool))
 |none=>some none
 |some (j,want)=>match dsts[j]? with
  |some (some d)=>some (some (d,want))
  |_=>none
def sd(P:Program)(N:Nat)(dsts:List (Option Nat))(o:Oper):Option Op2:=
 if dok N o.dst then (match x9 dsts o.guard with
  |some g=>some ⟨o.dst,g,dH P o.op⟩
  |none=>none) else none
def ji(P:Program)(N:Nat)(dsts:List (Option Nat)):List Oper→Option (List Op2)
 |[]=>some []
 |o::l=>match sd P N dsts o,ji P N dsts l with
  |some o,some l=>some (o::l)
  |_,_=>none
def vpP(P:Program)(op:Op):Bool:=xO op || (opk op==.pure&&(eK P op).isSome)
theorem li (P:Program):VP (vpP P):=⟨fun op h=>by
 unfold vpP at h;rw[im,dl] at h;rcases h with h|h
 ·exact ur h
 ·simpa using h.1,fun op h=>by unfold vpP;rw[h];rfl⟩
def qn(P:Program)(ops:List Oper):Bool:=ops.any fun o=>opk o.op==.other || (opk o.op==.pure&& !vpP P o.op)
def Bo(P:Program)(ops:List Oper):List Nat:=
 let m:=Region.before ops.toArray
 let r:=List.range ops.length
 let sp:=r.filter fun i=>!vpP P (ops.getD i default).op
 let C:=sp.foldl (fun acc s=>acc++(r.filter fun i=>vpP P (ops.getD i default).op&& !acc.contains i&& !sp.any fun q=>cU m i q&& !acc.contains q)++[s]) []
 C++r.filter fun i=>!C.contains i
def Bb(P:Program)(N:Nat)(ops:List Oper):Bool:=
 (qn P ops || ops.any fun o=>ph o.op==some .call)&&rc (vpP P) N ops (Bo P ops)
def svP(P:Program)(op:Op):Bool:=sv (vpP P) op
def lvP(P:Program)(op:Op)(T:Tm)(S:Hp):Option AV:=match op with
 |.lookup t m k ok=>match fC P t with
  |some (kt,et)=>match mkk P kt,dS P et with
   |some mk,some z=>lkS mk z ok (ev T m) (ev T k) S
   |_,_=>none
  |none=>none
 |_=>none
def bpF(P:Program)(b:Op→Bool)(l:Bool):BP where
 b:=b
 l:=l
 lv:=lvP P
 cg:=fun{op T T' S} h=>by
  cases op<;>first|rfl|skip
  rename_i t m k ok;unfold lvP;simp only;rw[h m (by simp[Op.operands]),h k (by simp[Op.operands])]
theorem lL{P:Program}{b:Op→Bool}{l:Bool}:mq P (bpF P b l):=fun _{op T S H nx K r} hl hr hs hk=>by
 cases op<;>first|(cases hl;done)|skip
 rename_i t m k ok;have hr:lvP P (.lookup t m k ok) T S=some r:=hr;unfold lvP at hr;simp only at hr;split at hr
 ·rename_i kt et ht;split at hr
  ·rename_i mk z hmk hz;unfold lkS at hr;split at hr
   ·rename_i bx hm;split at hr
    ·rename_i ks vs hb;split at hr
     ·rename_i hf;split at hr
      ·rename_i q hq;cases hr;exact kj ht hmk hz hm (hs _ _ hb) hf hq hk
      ·cases hr
     ·cases hr
    ·rename_i ks vs bs ck hb;split at hr
     ·rename_i hf;split at hr
      ·rename_i q hq;cases hr;exact jP ht hmk hz hm (hs _ _ hb) hf hq hk
      ·cases hr
     ·cases hr
    ·cases hr
   ·cases hr
  ·cases hr
 ·cases hr
def zZ(P:Program)(ops:List Oper):List Nat:=
 let m:=Region.before ops.toArray
 let r:=List.range ops.length
 let sp:=r.filter fun i=>!svP P (ops.getD i default).op
 let C:=sp.foldl (fun acc s=>acc++(r.filter fun i=>svP P (ops.getD i default).op&& !acc.contains i&& !sp.any fun q=>cU m i q&& !acc.contains q)++[s]) []
 C++r.filter fun i=>!C.contains i
def z6(P:Program)(N:Nat)(ops:List Oper):Bool:=
 (qn P ops || (ops.any fun o=>ph o.op==some .call) || !drawOk false ops)&&(ops.all fun o=>!eJ o.op || (eK P o.op).isSome)&&kP (vpP P) (bpF P (fun _=>false) false) N ops (zZ P ops)
def bG(P:Program)(bp:BP)(ops:List Oper)(k:Nat):Nat:=if (bp.b (ops.getD k default).op&&eB (ops.getD k default).op)=true then 3 else if (bp.l&&mB (ops.getD k default).op)=true then 4 else if svP P (ops.getD k default).op=true then 0 else if dU bp ops k=true then 1 else 2
def pq(P:Program)(bp:BP)(ops:List Oper):List Nat:=
 let m:=Region.before ops.toArray
 let r:=List.range ops.length
 let v:=fun i=>svP P (ops.getD i default).op || (bp.b (ops.getD i default).op&&eB (ops.getD i default).op) || (bp.l&&mB (ops.getD i default).op)
 let sp:=r.filter fun i=>!v i
 let C:=sp.foldl (fun acc s=>acc++(r.filter fun i=>v i&& !acc.contains i&& !sp.any fun q=>cU m i q&& !acc.contains q)++[s]) []
 C++r.filter fun i=>!C.contains i
def pD(P:Program)(bp:BP)(N:Nat)(ops:List Oper):Bool:=
 (ops.all fun o=>!(eJ o.op || (bp.b o.op&&eB o.op)) || (eK P o.op).isSome)&&kP (vpP P) bp N ops (pq P bp ops)
def bpA(P:Program)(op:Op):Bool:=match eK P op with
 |some (.bldS 1 _ _ _)=>true
 |_=>false
def zL(P:Program)(N:Nat)(ops:List Oper):Bool:=
 (ops.any fun o=>bpA P o.op)&&(ops.any fun o=>eB o.op&& !bpA P o.op)&&pD P (bpF P (bpA P) false) N ops
def z7(P:Program)(N:Nat)(ops:List Oper):Bool:=
 (ops.any fun o=>mB o.op)&&(drawOk false ops || drawOk true ops)&&pD P (bpF P (fun _=>false) true) N ops
def CL:Op→Bool
 |.alloc _=>true
 |_=>false
def xh(P:Program)(bp:BP)(ops:List Oper)(f:Nat):List Nat:=
 let m:=Region.before ops.toArray
 let r:=(List.range ops.length).filter fun i=>i !=f&& !cU m i f
 let v:=fun i=>svP P (ops.getD i default).op || (bp.b (ops.getD i default).op&&eB (ops.getD i default).op)
 let sp:=r.filter fun i=>!v i
 let C:=sp.foldl (fun acc s=>acc++(r.filter fun i=>v i&& !acc.contains i&& !sp.any fun q=>cU m i q&& !acc.contains q)++[s]) []
 C++r.filter fun i=>!C.contains i
def xl(ops:List Oper)(f:Nat):List Nat:=(List.range ops.length).filter fun i=>cU (Region.before ops.toArray) i f
def xg(P:Program)(bp:BP)(N:Nat)(ops:List Oper)(f:Nat):Bool:=
 CL (ops.getD f default).op&&(ops.all fun o=>!(eJ o.op || (bp.b o.op&&eB o.op)) || (eK P o.op).isSome)&&oa (vpP P) bp N ops f (xh P bp ops f) (xl ops f)
def Bx(o:Op2):Bool:=match o with
 |⟨_,_,.app ..⟩=>true
 |_=>false
def jC(P:Program)(N:Nat):Code→Option C2
 |.skip=>some .skip
 |.label _=>some .skip
 |.region _ ops draw=>match ji P N (ops.toList.map (·.dst)) ops.toList with
  |some l=>if draw=true then(if zL P N ops.toList=true then some (.mixS 9 l ((pq P (bpF P (bpA P) false) ops.toList).map fun k=>(k,bG P (bpF P (bpA P) false) ops.toList k))) else if Bb P N ops.toList=true then some (.mix (if qn P ops.toList=true then 9 else if drawOk false ops.toList=true then 1 else if drawOk true ops.toList=true then 2 else 9) l (Bo P ops.toList)) else if z6 P N ops.toList=true then some (.mixS (if qn P ops.toList=true then 9 else if drawOk false ops.toList=true then 1 else if drawOk true ops.toList=true then 2 else 9) l ((zZ P ops.toList).map fun k=>(k,bG P (bpF P (fun _=>false) false) ops.toList k))) else if z7 P N ops.toList=true then some (.mixS 9 l ((pq P (bpF P (fun _=>false) true) ops.toList).map fun k=>(k,bG P (bpF P (fun _=>false) true) ops.toList k))) else if drawOk false ops.toList=true then some (.ops 1 l) else if (l.any Bx&&pD P (bpF P (fun _=>true) false) N ops.toList)=true then some (.mixS 9 l ((pq P (bpF P (fun _=>true) false) ops.toList).map fun k=>(k,bG P (bpF P (fun _=>true) false) ops.toList k))) else if drawOk true ops.toList=true then some (.ops 2 l) else if pD P (bpF P (fun _=>true) false) N ops.toList=true then some (.mixS 9 l ((pq P (bpF P (fun _=>true) false) ops.toList).map fun k=>(k,bG P (bpF P (fun _=>true) false) ops.toList k))) else match (List.range ops.toList.length).find? (xg P (bpF P (fun _=>true) false) N ops.toList) with|some f=>some (.mixF l (f,bG P (bpF P (fun _=>true) false) ops.toList f) ((xh P (bpF P (fun _=>true) false) ops.toList f).map fun k=>(k,bG P (bpF P (fun _=>true) false) ops.toList k)) ((xl ops.toList f).map fun k=>(k,bG P (bpF P (fun _=>true) false) ops.toList k)))|none=>none) else some (.ops 0 l)
  |none=>none
 |.seq a b=>match jC P N a,jC P N b with
  |some a,some b=>some (.seq a b)
  |_,_=>none
 |.cond c a b=>match jC P N a,jC P N b with
  |some a,some b=>some (.cond (.of c) a b)
  |_,_=>none
 |.block id b=>match jC P N b with
  |some b=>some (.block id b)
  |none=>none
 |.loop b=>match jC P N b with
  |some b=>some (.loop b)
  |none=>none
 |.exit id=>some (.exit id)
 |.ret=>some .ret
 | .rangeFunc g ps a b=>if ps.toList.all (fun t=>decide (t < N))=true then (match jC P N a,jC P N b with
  |some a,some b=>some (.rangeF (.of g) ps.toList a b)
  |_,_=>none) else none
 |_=>none
theorem jS{α:Type}{x:Option α}{A B:α→Prop}(hab:∀a,A a→B a)(h:aB x A):aB x B:=by
 cases x with
 |none=>exact h
 |some a=>exact hab a h
theorem xB{P:Program}{dm:DM}{op:Op}{i:Ins}{T:Tm}(hc:(fF P op=some i∧opk op≠.write)∨iR P op=some i)(h:dm2 dm T i=true):ny dm T op=true:=by
 cases dm with
 |text=>rfl
 |draw=>rfl
 |fresh m=>
  rcases hc with⟨hc,hk⟩|hc
  ·cases op with
   |load t a=>
    simp only[fF] at hc;split at hc
    ·split at hc
     ·split at hc
      ·cases hc;simp only[dm2,rI,bm] at h;simp only[ny,mg];exact h
      ·cases hc
     ·cases hc;simp only[dm2,rI,bm] at h;simp only[ny,mg];exact h
    ·cases hc
   |store t p x=>exact absurd rfl hk
   |_=>simpa[ny,mg] using hk
  ·cases op with
   |store t p x=>
    simp only[iR] at hc;split at hc
    ·cases hc;simp only[dm2,wa,bm] at h;simp only[ny,mg];exact h
    ·cases hc
   |alloc e=>rfl
   |box e x=>rfl
   |buildSlice t len parts=>rfl
   |makeSlice t l c=>rfl
   |call c=>
    obtain⟨callee,args,argTypes⟩:=c;cases callee with
    |builtin b=>
     obtain⟨args⟩:=args;obtain⟨argTypes⟩:=argTypes;cases b with
     |append=>
      rcases args with _|⟨x,_|⟨y,_|⟨z,l⟩⟩⟩
      ·cases hc
      ·cases hc
      ·rcases argTypes with _|⟨t,_|⟨u,_|⟨v,l⟩⟩⟩
       ·cases hc
       ·cases hc
       ·simp only[iR] at hc;split at hc
        ·cases hc
        ·split at hc
         ·cases hc;cases h
         ·split at hc
          ·split at hc
           ·split at hc
            ·cases hc;cases h
            ·cases hc
           ·cases hc
          ·cases hc
       ·cases hc
      ·cases hc
     |_=>cases hc
    |_=>cases hc
   |_=>cases hc
theorem y5{P:Program}{dm:DM}{op:Op}{i:Ins}{T:Tm}{H:Hp}{nx:Nat}{K:AV→Hp→Nat→Prop}(hc:eK P op=some i)(h:bh P dm i T H nx K):mw P dm op T H nx K:=by
 unfold mw;unfold eK at hc;split at hc
 ·rename_i hk;split at hc
  ·rename_i f args hf;cases hc
   have h:(aB (kA (ov T (.of f))) fun y=>match (generalizing:=false) dm.isText with
    |false=>aZ P y.1 ((args.toList.map Opd.of).map (ov T)++y.2) H fun r=>K r H nx
    |true=>Fn P y.1 ((args.toList.map Opd.of).map (ov T)++y.2) H nx K)∨(dm.isText=true∧((∃b,ov T (.of f)=.yld b∧Yl P b ((args.toList.map Opd.of).map (ov T)) H nx K)∨ ∃g fs,ov T (.of f)=.bfn g fs∧Fn P g (fs++(args.toList.map Opd.of).map (ov T)) H nx K)):=h
   rw[bm,gA] at h;obtain⟨ts,rfl⟩:=jo hf;rcases h with h|⟨h1,⟨b,h2,h3⟩|⟨g,fs,h2,h3⟩⟩
   ·exact .inl h
   ·exact .inr ⟨h1,rA h2 h3⟩
   ·exact .inr ⟨h1,rj h2 h3⟩
  ·cases hc
 ·rename_i hk;split at hc
  ·rename_i j hj;split at hc
   ·rename_i hic;cases hc
    have hoc:opc op=.val∧opk op≠.write:=by
     unfold ph at hk;split at hk
     ·cases hk
     ·rename_i hn;unfold opc;split
      ·rename_i a b c;exact absurd rfl (hn _ _ _)
      ·split at hk<;>rename_i hkk<;>(try rw[hkk])<;>first|(cases hk;done)|(exact⟨rfl,by decide⟩)
    unfold bh at h;rw[hic] at h;simp only at h;left;unfold gB;rw[hoc.1];simp only;refine⟨xB (.inl ⟨hj,hoc.2⟩) h.1,?_⟩;have h:=h.2;cases hv:bk T H i with
    |none=>rw[hv] at h;exact h.elim
    |some r=>rw[qj hj hv];rw[hv] at h;exact h
   ·cases hc
  ·cases hc
 ·rename_i hk;split at hc
  ·rename_i j hj;split at hc
   ·rename_i hic;cases hc
    have hoc:opc op=.eff:=by
     unfold ph at hk;split at hk
     ·cases hk
     ·rename_i hn;unfold opc;split
      ·rename_i a b c;exact absurd rfl (hn _ _ _)
      ·split at hk<;>rename_i hkk<;>(try rw[hkk])<;>cases hk
    unfold bh at h;rw[hic] at h;simp only at h;left;unfold gB;rw[hoc];simp only;refine⟨xB (.inr hj) h.1,?_⟩;have h:=h.2;cases hv:gL T H nx i with
    |none=>rw[hv] at h;exact h.elim
    |some r=>rw[uO hj hv];rw[hv] at h;exact h
   ·cases hc
  ·cases hc
 ·cases hc
theorem nt{P:Program}{dm:DM}{op:Op}{T:Tm}{H:Hp}{nx:Nat}{K:AV→Hp→Nat→Prop}(h:bh P dm (dH P op) T H nx K):mw P dm op T H nx K:=by
 unfold dH at h;split at h
 ·rename_i i hi;exact y5 hi h
 ·split at h
  ·rename_i i hi;split at h
   ·rename_i hic;unfold bh at h;rw[hic] at h;exact .inr ⟨h.1,Au hi h.2⟩
   ·exact h.2.elim
  ·exact h.2.elim
theorem xk{dsts:List (Option Nat)}{T:Tm}{g:Option (Nat×Bool)}{g':Option (Nat×Bool)}(h:x9 dsts g=some g'):gval T dsts g=g2 T g':=by
 unfold x9 at h;split at h
 ·cases h;rfl
 ·split at h
  ·rename_i d hd;cases h;simp only[gval,hd,g2];generalize T d=v;cases v<;>try rfl
  ·cases h
theorem eL{P:Program}{N:Nat}{dm:DM}{dsts:List (Option Nat)}{K:SP}:∀(l:List Oper)(l2:List Op2){T:Tm}{H:Hp}{nx:Nat},ji P N dsts l=some l2→al P dm l2 T H nx K→kX P N dm dsts l T H nx K
 |[],l2,T,H,nx,hc,h=>by cases hc;exact h
 |o::l,l2,T,H,nx,hc,h=>by
  simp only[ji] at hc;split at hc
  ·rename_i o2 r2 ho hr;cases hc;unfold sd at ho;split at ho
   ·rename_i hd;split at ho
    ·rename_i g hg;cases ho;refine⟨hd,?_⟩;rw[xk hg];have h:aX (g2 T g) (bh P dm (dH P o.op) T H nx fun r H nx=>al P dm r2 (aH T o.dst r) H nx K) (al P dm r2 (aH T o.dst (.tup [])) H nx K):=h;cases hgv:g2 T g with
     |none=>rw[hgv] at h;exact h.elim
     |some b=>
      rw[hgv] at h;cases b with
      |true=>
       have h:bh P dm (dH P o.op) T H nx fun r H nx=>al P dm r2 (aH T o.dst r) H nx K:=h;exact fV (nt h) (fun r H nx hh=>eL l r2 hr hh)
      |false=>exact eL l r2 hr h
    ·cases ho
   ·cases ho
  ·cases hc
theorem xM{P:Program}{op:Op}{T:Tm}{H:Hp}{nx:Nat}{K:AV→Hp→Nat→Prop}(h:bh P .text (dH P op) T H nx K):fE (vpP P) P op T H nx K:=by
 unfold fE;split
 ·rename_i hk0;have hk:=(li P).pure _ hk0
  have hsome:(eK P op).isSome=true:=by
   unfold vpP at hk0;rw[im,dl] at hk0;rcases hk0 with h|h
   ·cases op<;>first|(cases h;done)|rfl
   ·exact h.2
  obtain⟨i,hi⟩:=xG.1 hsome;unfold dH at h;rw[hi] at h;have h:bh P .text i T H nx K:=h;unfold eK at hi
  have hic:ph op=some .val:=by
   unfold ph;split
   ·simp[opk] at hk
   ·rw[hk]
  rw[hic] at hi;simp only at hi;split at hi
  ·rename_i j hj;split at hi
   ·rename_i hc;cases hi;unfold bh at h;rw[hc] at h;obtain⟨_,h⟩:=h;obtain⟨r,hr,hk⟩:=cf h;rw[qj hj hr];exact hk
   ·cases hi
  ·cases hi
 ·exact nt h
theorem lm{P:Program}{N:Nat}{dsts:List (Option Nat)}:∀{l:List Oper}{l2:List Op2},ji P N dsts l=some l2→∀{k:Nat}{o:Oper},l[k]?=some o→∃o2,l2[k]?=some o2∧sd P N dsts o=some o2
 |[],l2,h,k,o,ho=>by simp at ho
 |x::l,l2,h,k,o,ho=>by
  simp only[ji] at h;split at h
  ·rename_i o2 r2 h1 h2;cases h;cases k with
   |zero=>simp at ho;subst ho;exact⟨o2,rfl,h1⟩
   |succ k=>
    obtain⟨o3,h3,h4⟩:=lm h2 (k:=k) (o:=o) (by simpa using ho);exact⟨o3,by simpa using h3,h4⟩
  ·cases h
theorem oI{P:Program}{N:Nat}{ops:List Oper}{l:List Op2}(hl:ji P N (ops.map (·.dst)) ops=some l){K:SP}:∀(C:List Nat),(∀k∈C,k<ops.length)→∀{T:Tm}{H:Hp}{nx:Nat},
    al P .text (C.map fun k=>l.getD k ⟨none,none,.dead⟩) T H nx K→iw (vpP P) P N (ops.map (·.dst)) (C.map fun k=>ops.getD k default) T H nx K
 |[],_,_,_,_,h=>h
 |k::C,hC,T,H,nx,h=>by
  have hk:=hC k (by simp);obtain⟨o,ho⟩:=bW hk;obtain⟨o2,ho2,hc⟩:=lm hl ho;have e1:ops.getD k default=o:=bZ ho;have e2:l.getD k ⟨none,none,.dead⟩=o2:=by simp[List.getD,ho2]
  rw[fZ,e1];rw[fZ,e2] at h;unfold sd at hc;split at hc
  ·rename_i hd;split at hc
   ·rename_i g hg;cases hc;refine⟨hd,?_⟩;rw[xk hg];have h:aX (g2 T g) (bh P .text (dH P o.op) T H nx fun r H nx=>al P .text (C.map fun k=>l.getD k ⟨none,none,.dead⟩) (aH T o.dst r) H nx K) (al P .text (C.map fun k=>l.getD k ⟨none,none,.dead⟩) (aH T o.dst (.tup [])) H nx K):=h;cases hgv:g2 T g with
    |none=>rw[hgv] at h;exact h.elim
    |some b=>
     rw[hgv] at h;cases b with
     |true=>
      have h:bh P .text (dH P o.op) T H nx fun r H nx=>al P .text (C.map fun k=>l.getD k ⟨none,none,.dead⟩) (aH T o.dst r) H nx K:=h;exact j6 (xM h) (fun r H nx hh=>oI hl C (fun q hq=>hC q (by simp[hq])) hh)
     |false=>exact oI hl C (fun q hq=>hC q (by simp[hq])) h
   ·cases hc
  ·cases hc
theorem zJ{P:Program}{op:Op}{T:Tm}{r:AV}(hb:eB op=true)(hc:(eK P op).isSome=true)(h:pd T (dH P op)=some r):rE P T op=some r:=by
 obtain⟨i,hi⟩:=xG.1 hc;have hcd:dH P op=i:=by unfold dH;rw[hi]
 rw[hcd] at h;cases op<;>first|(cases hb;done)|skip
 rename_i t len parts
 have hi2:iR P (.buildSlice t len parts)=some i:=by
  unfold eK at hi;have:ph (.buildSlice t len parts)=some .eff:=rfl;rw[this] at hi;simp only at hi;split at hi
  ·rename_i j hj;split at hi
   ·cases hi;exact hj
   ·cases hi
  ·cases hi
 unfold rE;rw[if_pos hb];unfold pd at h;split at h
 ·rename_i sz len' z parts';obtain⟨n,H',k,cs,h1,h2,h3,h4,h5⟩:=lO h;rw[uO hi2 h1];rw[h1] at h;exact h
 ·cases h
theorem Ai{P:Program}{op:Op}{T:Tm}{S:Hp}{r:AV}(hl:mB op=true)(h:ilk T S (dH P op)=some r):lvP P op T S=some r:=by
 cases op<;>first|(cases hl;done)|skip
 rename_i t m k ok
 have e:dH P (.lookup t m k ok)=match nW P (.lookup t m k ok) with
  |some i=>if ic i=.sp then i else .dead
  |none=>.dead:=rfl
 rw[e] at h;simp only[nW] at h;unfold lvP;simp only;cases ht:fC P t with
 |none=>rw[ht] at h;cases h
 |some p=>
  obtain⟨kt,et⟩:=p;rw[ht] at h;simp only at h ⊢;cases hk:mkk P kt with
  |none=>rw[hk] at h;cases h
  |some mk=>
   cases hz:dS P et with
   |none=>rw[hk,hz] at h;cases h
   |some z=>
    rw[hk,hz] at h;simp only[ic,if_true,ilk,bm] at h;exact h
theorem gM{P:Program}{bp:BP}(hlv:bp.lv=lvP P){N:Nat}{ops:List Oper}{l:List Op2}(hl:ji P N (ops.map (·.dst)) ops=some l)(hld:(ops.all fun o=>!eJ o.op || (eK P o.op).isSome)=true)(hbd:(ops.all fun o=>!(bp.b o.op&&eB o.op) || (eK P o.op).isSome)=true){S:Hp}{K:SP}:∀(C:List Nat),(∀k∈C,k<ops.length)→∀{T:Tm}{H:Hp}{nx:Nat},
    be P S (C.map fun k=>(l.getD k ⟨none,none,.dead⟩,bG P bp ops k)) T H nx K→eN (vpP P) bp P N (ops.map (·.dst)) S (C.map (ct bp ops)) T H nx K
 |[],_,_,_,_,h=>h
 |k::C,hC,T,H,nx,h=>by
  have hk:=hC k (by simp);obtain⟨o,ho⟩:=bW hk;obtain⟨o2,ho2,hc⟩:=lm hl ho;have e1:ops.getD k default=o:=bZ ho;have e2:l.getD k ⟨none,none,.dead⟩=o2:=by simp[List.getD,ho2]
  have hrec:=fun(T:Tm)(H:Hp)(nx:Nat) hh=>gM hlv hl hld hbd (S:=S) (K:=K) C (fun q hq=>hC q (by simp[hq])) (T:=T) (H:=H) (nx:=nx) hh;rw[fZ];rw[fZ,e2] at h;have ep:ct bp ops k=(o,dU bp ops k):=by unfold ct;rw[e1]
  have ek:bG P bp ops k=if (bp.b o.op&&eB o.op)=true then 3 else if (bp.l&&mB o.op)=true then 4 else if sv (vpP P) o.op=true then 0 else if dU bp ops k=true then 1 else 2:=by unfold bG svP;rw[e1]
  rw[ep];rw[ek] at h;unfold sd at hc;split at hc
  case isFalse=>cases hc
  rename_i hd;split at hc
  case h_2=>cases hc
  rename_i g hg;cases hc;refine⟨hd,?_⟩;show aX (gval T (ops.map (·.dst)) o.guard) (dX (vpP P) bp P S o.op (dU bp ops k) T H nx fun r H' nx'=>eN (vpP P) bp P N (ops.map (·.dst)) S (C.map (ct bp ops)) (aH T o.dst r) H' nx' K) (eN (vpP P) bp P N (ops.map (·.dst)) S (C.map (ct bp ops)) (aH T o.dst (.tup [])) H nx K);rw[xk hg];by_cases hbl:(bp.b o.op&&eB o.op)=true
  ·rw[if_pos hbl] at h;have h:aX (g2 T g) (aB (pd T (dH P o.op)) fun r=>be P S (C.map fun k=>(l.getD k ⟨none,none,.dead⟩,bG P bp ops k)) (aH T o.dst r) H nx K) (be P S (C.map fun k=>(l.getD k ⟨none,none,.dead⟩,bG P bp ops k)) (aH T o.dst (.tup [])) H nx K):=h;cases hgv:g2 T g with
   |none=>rw[hgv] at h;exact h.elim
   |some b=>
    rw[hgv] at h;cases b with
    |false=>exact hrec _ _ _ h
    |true=>
     have h:aB (pd T (dH P o.op)) fun r=>be P S (C.map fun k=>(l.getD k ⟨none,none,.dead⟩,bG P bp ops k)) (aH T o.dst r) H nx K:=h;show dX (vpP P) bp P S o.op (dU bp ops k) T H nx _;unfold dX;rw[if_pos (show nv (vpP P) bp o.op=true by unfold nv;rw[hbl,Bool.or_true,Bool.true_or])];obtain⟨r,hr,hh⟩:=cf h;rw[dl] at hbl
     have hsome:(eK P o.op).isSome=true:=by
      have:=cT.1 hbd o (fh ho);rw[hbl.1,hbl.2] at this;simpa using this
     unfold mj;rw[if_pos (show(bp.b o.op&&eB o.op)=true by rw[hbl.1,hbl.2];rfl),zJ hbl.2 hsome hr];exact hrec _ _ _ hh
  rw[if_neg hbl] at h;by_cases hlk:(bp.l&&mB o.op)=true
  ·rw[if_pos hlk] at h;have h:aX (g2 T g) (aB (ilk T S (dH P o.op)) fun r=>be P S (C.map fun k=>(l.getD k ⟨none,none,.dead⟩,bG P bp ops k)) (aH T o.dst r) H nx K) (be P S (C.map fun k=>(l.getD k ⟨none,none,.dead⟩,bG P bp ops k)) (aH T o.dst (.tup [])) H nx K):=h;cases hgv:g2 T g with
   |none=>rw[hgv] at h;exact h.elim
   |some b=>
    rw[hgv] at h;cases b with
    |false=>exact hrec _ _ _ h
    |true=>
     have h:aB (ilk T S (dH P o.op)) fun r=>be P S (C.map fun k=>(l.getD k ⟨none,none,.dead⟩,bG P bp ops k)) (aH T o.dst r) H nx K:=h;show dX (vpP P) bp P S o.op (dU bp ops k) T H nx _;unfold dX;rw[if_pos (show nv (vpP P) bp o.op=true by unfold nv;rw[hlk,Bool.or_true])];obtain⟨r,hr,hh⟩:=cf h;unfold mj;rw[if_neg hbl,if_pos hlk,hlv];rw[dl] at hlk;rw[Ai hlk.2 hr];exact hrec _ _ _ hh
  have hnv:nv (vpP P) bp o.op=sv (vpP P) o.op:=by
   unfold nv;cases hb:(bp.b o.op&&eB o.op) with
   |true=>exact absurd hb hbl
   |false=>
    cases hb2:(bp.l&&mB o.op) with
    |true=>exact absurd hb2 hlk
    |false=>rw[Bool.or_false,Bool.or_false]
  have hnval:mj P bp T S o.op=bX P T S o.op:=by unfold mj;rw[if_neg hbl,if_neg hlk]
  rw[if_neg hlk] at h;by_cases hs:sv (vpP P) o.op=true
  ·rw[if_pos hs] at h;have h:aX (g2 T g) (aB (bk T S (dH P o.op)) fun r=>be P S (C.map fun k=>(l.getD k ⟨none,none,.dead⟩,bG P bp ops k)) (aH T o.dst r) H nx K) (be P S (C.map fun k=>(l.getD k ⟨none,none,.dead⟩,bG P bp ops k)) (aH T o.dst (.tup [])) H nx K):=h;cases hgv:g2 T g with
   |none=>rw[hgv] at h;exact h.elim
   |some b=>
    rw[hgv] at h;cases b with
    |false=>exact hrec _ _ _ h
    |true=>
     have h:aB (bk T S (dH P o.op)) fun r=>be P S (C.map fun k=>(l.getD k ⟨none,none,.dead⟩,bG P bp ops k)) (aH T o.dst r) H nx K:=h;show dX (vpP P) bp P S o.op (dU bp ops k) T H nx _;unfold dX;rw[if_pos (hnv.trans hs),hnval];obtain⟨r,hr,hh⟩:=cf h
     have hsome:(eK P o.op).isSome=true:=by
      unfold sv at hs;rw[im] at hs;rcases hs with hs|hs
      ·unfold vpP at hs;rw[im,dl] at hs;rcases hs with h|h
       ·revert h;cases o.op<;>intro h<;>first|(cases h;done)|rfl
       ·exact h.2
      ·have:=cT.1 hld o (fh ho);rw[hs] at this;simpa using this
     obtain⟨i,hi⟩:=xG.1 hsome;have hcd:dH P o.op=i:=by unfold dH;rw[hi]
     rw[hcd] at hr
     have hic:ph o.op=some .val:=by
      unfold sv at hs;rw[im] at hs;rcases hs with hs|hs
      ·have hk:=(li P).pure _ hs;unfold ph;split
       ·rename_i heq;rw[heq] at hk;simp[opk] at hk
       ·rw[hk]
      ·revert hs;cases o.op<;>intro hs<;>first|(cases hs;done)|rfl
     unfold eK at hi;rw[hic] at hi;simp only at hi;split at hi
     ·rename_i j hj;split at hi
      ·cases hi;rw[qj hj hr];exact hrec _ _ _ hh
      ·cases hi
     ·cases hi
  ·rw[if_neg hs] at h
   obtain⟨q,hq,hq2,hq3,hq4⟩:∃q,(if dU bp ops k=true then 1 else 2)=q+1∧(dU bp ops k=true→q=0)∧q≠2∧q≠3:=by
    by_cases hkk:dU bp ops k=true
    ·exact⟨0,by rw[if_pos hkk],fun _=>rfl,by omega,by omega⟩
    ·exact⟨1,by rw[if_neg hkk],fun h=>absurd h hkk,by omega,by omega⟩
   rw[hq] at h;simp only[be,if_neg hq3,if_neg hq4] at h;have h:aX (g2 T g) (bh P .text (dH P o.op) T H nx fun r H' nx'=>(q=0→Sub S H')∧be P S (C.map fun k=>(l.getD k ⟨none,none,.dead⟩,bG P bp ops k)) (aH T o.dst r) H' nx' K) (be P S (C.map fun k=>(l.getD k ⟨none,none,.dead⟩,bG P bp ops k)) (aH T o.dst (.tup [])) H nx K):=h;cases hgv:g2 T g with
   |none=>rw[hgv] at h;exact h.elim
   |some b=>
    rw[hgv] at h;cases b with
    |false=>exact hrec _ _ _ h
    |true=>
     have h:bh P .text (dH P o.op) T H nx fun r H' nx'=>(q=0→Sub S H')∧be P S (C.map fun k=>(l.getD k ⟨none,none,.dead⟩,bG P bp ops k)) (aH T o.dst r) H' nx' K:=h;show dX (vpP P) bp P S o.op (dU bp ops k) T H nx _;unfold dX;rw[if_neg (by rw[hnv];exact hs)];exact fV (nt h) (fun r H nx hh=>⟨fun hkk=>hh.1 (hq2 hkk),hrec _ _ _ hh.2⟩)
theorem mM{P:Program}{bp:BP}(hbp:mq P bp)(hlv:bp.lv=lvP P){N:Nat}{rid:Nat}{ops:Array Oper}{l:List Op2}(hl:ji P N (ops.toList.map (·.dst)) ops.toList=some l)(hmx:pD P bp N ops.toList=true){T:Tm}{H:Hp}{nx:Nat}{K:CP}
    (h:aG P (.mixS 9 l ((pq P bp ops.toList).map fun k=>(k,bG P bp ops.toList k))) T H nx K):awp P N (.region rid ops true) T H nx K:=by
 unfold pD at hmx;rw[dl] at hmx;obtain⟨hld,hok⟩:=hmx;rcases h with⟨h9,_⟩|⟨T,H,nx,Hf,S,hg,hs,h⟩
 ·exact absurd rfl h9
 ·rw[List.map_map] at h;rw[cT] at hld;refine⟨T,H,nx,Hf,hg,.inr (.inr (.inl ⟨_,bp,_,S,li P,hbp,hok,hs,gM hlv hl ?_ ?_ _ (lr hok).lt h⟩))⟩
  ·rw[cT];intro o ho;have:=hld o ho;cases h1:eJ o.op with
   |false=>rfl
   |true=>rw[h1] at this;simpa using this
  ·rw[cT];intro o ho;have:=hld o ho;cases h1:(bp.b o.op&&eB o.op) with
   |false=>rfl
   |true=>rw[h1] at this;simpa using this
theorem rq{P:Program}{bp:BP}(hlv:bp.lv=lvP P){N:Nat}{ops:List Oper}{l:List Op2}(hl:ji P N (ops.map (·.dst)) ops=some l)(hld:(ops.all fun o=>!eJ o.op || (eK P o.op).isSome)=true)(hbd:(ops.all fun o=>!(bp.b o.op&&eB o.op) || (eK P o.op).isSome)=true){S:Hp}{K:SP}{f:Nat}{D:List Nat}(hf:f<ops.length)(hD:∀k∈D,k<ops.length):∀(C:List Nat),(∀k∈C,k<ops.length)→∀{T:Tm}{H:Hp}{nx:Nat},
    jQ P S (l.getD f ⟨none,none,.dead⟩,bG P bp ops f) (D.map fun k=>(l.getD k ⟨none,none,.dead⟩,bG P bp ops k)) (C.map fun k=>(l.getD k ⟨none,none,.dead⟩,bG P bp ops k)) T H nx K→gW (vpP P) bp P N (ops.map (·.dst)) S (ct bp ops f) (D.map (ct bp ops)) (C.map (ct bp ops)) T H nx K
 | [],_,T,H,nx,h=>gM hlv hl hld hbd (f :: D) (fun k hk=>by
     rcases fo.1 hk with rfl|hk
     ·exact hf
     ·exact hD k hk) h
 |k::C,hC,T,H,nx,h=>by
  have h:(bG P bp ops k=1∨bG P bp ops k=2→be P S ((l.getD f ⟨none,none,.dead⟩,bG P bp ops f)::(l.getD k ⟨none,none,.dead⟩,bG P bp ops k)::((C.map fun k=>(l.getD k ⟨none,none,.dead⟩,bG P bp ops k))++D.map fun k=>(l.getD k ⟨none,none,.dead⟩,bG P bp ops k))) T H nx K)∧be P S [(l.getD k ⟨none,none,.dead⟩,bG P bp ops k)] T H nx fun T H nx=>jQ P S (l.getD f ⟨none,none,.dead⟩,bG P bp ops f) (D.map fun k=>(l.getD k ⟨none,none,.dead⟩,bG P bp ops k)) (C.map fun k=>(l.getD k ⟨none,none,.dead⟩,bG P bp ops k)) T H nx K:=h;obtain⟨h1,h2⟩:=h;refine⟨fun hn=>?_,?_⟩
  ·have hk:bG P bp ops k=1∨bG P bp ops k=2:=by
     unfold nv at hn;have hn:nv (vpP P) bp (ops.getD k default).op=false:=hn;unfold nv at hn;rw[Bool.or_eq_false_iff,Bool.or_eq_false_iff] at hn;obtain⟨⟨n1,n2⟩,n3⟩:=hn;unfold bG svP;rw[n2,n3,n1];simp only[cI,if_false];split
     ·exact .inl rfl
     ·exact .inr rfl
   have h1:=h1 hk;have e:(l.getD f ⟨none,none,.dead⟩,bG P bp ops f)::(l.getD k ⟨none,none,.dead⟩,bG P bp ops k)::((C.map fun k=>(l.getD k ⟨none,none,.dead⟩,bG P bp ops k))++D.map fun k=>(l.getD k ⟨none,none,.dead⟩,bG P bp ops k))=(f::k::(C++D)).map fun k=>(l.getD k ⟨none,none,.dead⟩,bG P bp ops k):=by simp
   rw[e] at h1
   have:=gM hlv hl hld hbd (f :: k :: (C ++ D)) (fun q hq=>by
    rcases fo.1 hq with rfl|hq
    ·exact hf
    ·rcases fo.1 hq with rfl|hq
     ·exact hC _ (by simp)
     ·rcases pf.1 hq with hq|hq
      ·exact hC q (by simp[hq])
      ·exact hD q hq) h1
   rw[fZ,fZ,hU] at this;exact this
  ·have:=gM hlv hl hld hbd [k] (fun q hq=>by rw[qR.1 hq];exact hC k (by simp)) h2;have this:fM (vpP P) bp P N (ops.map (·.dst)) S (ct bp ops k) T H nx fun T H nx=>jQ P S (l.getD f ⟨none,none,.dead⟩,bG P bp ops f) (D.map fun k=>(l.getD k ⟨none,none,.dead⟩,bG P bp ops k)) (C.map fun k=>(l.getD k ⟨none,none,.dead⟩,bG P bp ops k)) T H nx K:=this;exact du this (fun r H1 nx1 h=>rq hlv hl hld hbd hf hD C (fun q hq=>hC q (by simp[hq])) h)
theorem zB{P:Program}{bp:BP}(hbp:mq P bp)(hlv:bp.lv=lvP P){N:Nat}{rid:Nat}{ops:Array Oper}{l:List Op2}{f:Nat}(hl:ji P N (ops.toList.map (·.dst)) ops.toList=some l)(hmx:xg P bp N ops.toList f=true){T:Tm}{H:Hp}{nx:Nat}{K:CP}
    (h:aG P (.mixF l (f,bG P bp ops.toList f) ((xh P bp ops.toList f).map fun k=>(k,bG P bp ops.toList k)) ((xl ops.toList f).map fun k=>(k,bG P bp ops.toList k))) T H nx K):awp P N (.region rid ops true) T H nx K:=by
 unfold xg at hmx;rw[dl,dl] at hmx;obtain⟨⟨_,hld⟩,hok⟩:=hmx;have hk:=pM hok;obtain⟨T,H,nx,Hf,S,hg,hs,h⟩:=h;rw[List.map_map,List.map_map] at h;rw[cT] at hld;refine⟨T,H,nx,Hf,hg,.inr (.inr (.inr ⟨_,bp,f,_,_,S,li P,hbp,hok,hs,rq hlv hl ?_ ?_ hk.fl (fun k hk'=>(hk.lt k (rk _ hk')).1) _ (fun k hk'=>(hk.lt k (o5 _ hk')).1) h⟩))⟩
 ·rw[cT];intro o ho;have:=hld o ho;cases h1:eJ o.op with
  |false=>rfl
  |true=>rw[h1] at this;simpa using this
 ·rw[cT];intro o ho;have:=hld o ho;cases h1:(bp.b o.op&&eB o.op) with
  |false=>rfl
  |true=>rw[h1] at this;simpa using this
theorem fI{P:Program}{N:Nat}(hm:P.follows .mixedOrders=true):∀(c:Code)(c2:C2){T:Tm}{H:Hp}{nx:Nat}{K:CP},jC P N c=some c2→aG P c2 T H nx K→awp P N c T H nx K
 |.skip,c2,_,_,_,_,hc,h=>by cases hc;exact h
 |.label _,c2,_,_,_,_,hc,h=>by cases hc;exact h
 |.exit _,c2,_,_,_,_,hc,h=>by cases hc;exact h
 |.ret,c2,_,_,_,_,hc,h=>by cases hc;exact h
 |.region _ ops draw,c2,_,_,_,_,hc,h=>by
  simp only[jC] at hc;split at hc
  ·rename_i l hl;cases draw with
   |true=>
    simp only[if_true] at hc;split at hc
    ·rename_i hmx;cases hc;unfold zL at hmx;rw[dl] at hmx;exact mM lL rfl hl hmx.2 h
    split at hc
    ·rename_i hmx;cases hc;unfold Bb at hmx;rw[dl] at hmx;obtain⟨_,hok⟩:=hmx;rcases h with⟨h9,T,H,nx,Hf,hg,h⟩|⟨T,H,nx,Hf,hg,h⟩
     ·refine⟨T,H,nx,Hf,hg,.inl ?_⟩;split at h9
      ·exact absurd rfl h9
      ·rename_i ho;rw[if_neg ho] at h;split at h9
       ·rename_i hd;rw[if_pos hd] at h ⊢;exact eL _ _ hl h
       ·rename_i hd;rw[if_neg hd] at h ⊢;split at h9
        ·rename_i hd2;rw[if_pos hd2] at h;exact⟨hd2,eL _ _ hl h⟩
        ·exact absurd rfl h9
     ·exact⟨T,H,nx,Hf,hg,.inr (.inl ⟨_,_,li P,hok,oI hl _ (sN hok).lt h⟩)⟩
    ·split at hc
     ·rename_i hmx;cases hc;unfold z6 at hmx;rw[dl,dl] at hmx;obtain⟨⟨_,hld⟩,hok⟩:=hmx;rcases h with⟨h9,T,H,nx,Hf,hg,h⟩|⟨T,H,nx,Hf,S,hg,hs,h⟩
      ·refine⟨T,H,nx,Hf,hg,.inl ?_⟩;split at h9
       ·exact absurd rfl h9
       ·rename_i ho;rw[if_neg ho] at h;split at h9
        ·rename_i hd;rw[if_pos hd] at h ⊢;exact eL _ _ hl h
        ·rename_i hd;rw[if_neg hd] at h ⊢;split at h9
         ·rename_i hd2;rw[if_pos hd2] at h;exact⟨hd2,eL _ _ hl h⟩
         ·exact absurd rfl h9
      ·rw[List.map_map] at h;exact⟨T,H,nx,Hf,hg,.inr (.inr (.inl ⟨_,bpF P (fun _=>false) false,_,S,li P,lL,hok,hs,gM rfl hl hld (cT.2 fun _ _=>rfl) _ (lr hok).lt h⟩))⟩
     split at hc
     ·rename_i hmx;cases hc;unfold z7 at hmx;rw[dl] at hmx;exact mM lL rfl hl hmx.2 h
     split at hc
     ·rename_i hd;cases hc;obtain⟨T,H,nx,Hf,hg,h⟩:=h;refine⟨T,H,nx,Hf,hg,?_⟩;simp only;rw[if_pos hd];exact .inl (eL _ _ hl h)
     ·rename_i hd;split at hc
      ·rename_i hmx;cases hc;rw[dl] at hmx;exact mM lL rfl hl hmx.2 h
      split at hc
      ·rename_i hd2;cases hc;obtain⟨T,H,nx,Hf,hg,h⟩:=h;refine⟨T,H,nx,Hf,hg,?_⟩;simp only;rw[if_neg hd];exact .inl ⟨hd2,eL _ _ hl h⟩
      ·split at hc
       ·rename_i hmx;cases hc;exact mM lL rfl hl hmx h
       ·split at hc
        ·rename_i f hfd;cases hc;exact zB lL rfl hl (List.find?_some hfd) h
        ·cases hc
   |false=>
    simp only[cI,if_false] at hc;cases hc;obtain⟨T,H,nx,Hf,hg,h⟩:=h;exact⟨T,H,nx,Hf,hg,eL _ _ hl h⟩
  ·cases hc
 |.seq a b,c2,_,_,_,K,hc,h=>by
  simp only[jC] at hc;split at hc
  ·rename_i a2 b2 ha hb;cases hc;refine ef a (fI hm a a2 ha h) (fun e T H nx h=>?_);cases e with
   |normal=>exact fI hm b b2 hb h
   |exit i=>exact h
   |ret=>exact h
  ·cases hc
 |.cond c a b,c2,_,_,_,K,hc,h=>by
  simp only[jC] at hc;split at hc
  ·rename_i a2 b2 ha hb;cases hc;simp only[aG,bm] at h;simp only[awp];unfold a9 at h ⊢;split at h
   ·exact⟨fun hh=>fI hm a a2 ha (h.1 hh),fun hh=>fI hm b b2 hb (h.2 hh)⟩
   ·exact h
  ·cases hc
 |.block id b,c2,_,_,_,K,hc,h=>by
  simp only[jC] at hc;split at hc
  ·rename_i b2 hb;cases hc;exact fI hm b b2 hb h
  ·cases hc
 |.loop b,c2,T,H,nx,K,hc,h=>by
  simp only[jC] at hc;split at hc
  ·rename_i b2 hb;cases hc;obtain⟨n,h⟩:=h;refine⟨n,?_⟩
   induction n generalizing T H nx with
   |zero=>exact h
   |succ n ih=>
    obtain⟨T',H',nx',Hf,hg,h⟩:=h;refine⟨T',H',nx',Hf,hg,ef b (fI hm b b2 hb h) (fun e T H nx h=>?_)⟩;cases e with
    |normal=>exact ih _ _ _ h
    |exit i=>exact h
    |ret=>exact h
  ·cases hc
 |.rangeFunc g ps a b,c2,T,H,nx,K,hc,h=>by
  simp only[jC] at hc;split at hc
  case isFalse=>cases hc
  case isTrue hps=>
  split at hc
  ·rename_i a2 b2 ha hb;cases hc;obtain⟨f,caps,h1,h2⟩:=h;rw[bm] at h1;show RF P N _ T H nx K;refine BF h1 (fun r hr=>?_);refine h2 (.oloop r T) (qe r T) (fun args H' nx' K' hH hl hw=>?_);refine Yl.of_awp hr hm (fun t ht=>by simpa using cT.1 hps t ht) hH (by simpa using hl) (ef a (fI hm a a2 ha hw) (fun e T2 H2 nx2 h=>?_));cases e with
   |normal=>exact⟨h.1,fI hm b b2 hb h.2⟩
   |exit i=>exact h
   |ret=>exact h
  ·cases hc
 |.scope _,_,_,_,_,_,hc,_=>by cases hc
 |.goto _,_,_,_,_,_,hc,_=>by cases hc
 |.refuse _,_,_,_,_,_,hc,_=>by cases hc
inductive RV where
 |t (n:Nat)
 |c1 (n:Nat)
 |cn (n k:Nat)
structure F2 where
 n:Nat
 res:List RV
 body:C2
def gR(P:Program):List ResultVar→Option (List RV)
 |[]=>some []
 |.tmp t::l=>match gR P l with|some l=>some (.t t::l)|none=>none
 | .cell a t :: l=>if tok P t=true then (match gR P l with
  |some l=>if kI P t=true then(if 0<P.cellsOf t then some (.cn a (P.cellsOf t)::l) else none) else some (.c1 a::l)
  |none=>none) else none
def ra(P:Program)(fn:Func):Option F2:=
 match fn.body with
 |some c=>if fn.name== "runtime.NumGoroutine" then none else match jC P fn.ntmps c,gR P fn.results.toList with
  |some b,some r=>some ⟨fn.ntmps,r,b⟩
  |_,_=>none
 |none=>none
def rv(T:Tm)(H:Hp):RV→Option AV
 |.t n=>some (T n)
 |.c1 n=>rd1 H (T n)
 |.cn n k=>(rd H k (T n)).map .agg
def x2(T:Tm)(H:Hp):List RV→(List AV→Prop)→Prop
 |[],K=>K []
 |a::l,K=>aB (rv T H a) fun x=>x2 T H l fun xs=>K (x::xs)
def bt(T:Tm)(H:Hp)(K:AV→Prop):List RV→Prop
 |[a]=>aB (rv T H a) K
 |[a,b]=>aB (rv T H a) fun x=>aB (rv T H b) fun y=>K (.tup [x,y])
 |[a,b,c]=>aB (rv T H a) fun x=>aB (rv T H b) fun y=>aB (rv T H c) fun z=>K (.tup [x,y,z])
 |[]=>K (.tup [])
 |a::b::c::d::l=>x2 T H (a::b::c::d::l) fun xs=>K (.tup xs)
theorem nz{P:Program}{T:Tm}{H:Hp}{r:ResultVar}{l:List ResultVar}{x:RV}{xs:List RV}{v:AV}(h:gR P (r::l)=some (x::xs))(hv:rv T H x=some v):
    gR P l=some xs∧iX P T H (r::l)=(match iX P T H l with|some ys=>some (v::ys)|none=>none):=by
 cases r with
 |tmp t=>
  simp only[gR] at h;split at h
  ·rename_i ys hy;cases h;cases hv;exact⟨hy,rfl⟩
  ·cases h
 |cell a t=>
  simp only[gR] at h;split at h
  ·rename_i h1;split at h
   ·rename_i ys hy;split at h
    ·rename_i h2;split at h
     ·rename_i h3;cases h;refine⟨hy,?_⟩;simp only[rv] at hv;simp only[iX,gK,h1,h2,if_true,if_pos h3,hv];cases iX P T H l<;>rfl
     ·cases h
    ·rename_i h2;cases h;refine⟨hy,?_⟩;simp only[rv] at hv;simp only[iX,gK,h1,h2,if_true,hv];cases iX P T H l<;>rfl
   ·cases h
  ·cases h
theorem gX{P:Program}{l:List ResultVar}(h:gR P l=some []):l=[]:=by
 cases l with
 |nil=>rfl
 |cons r l=>
  cases r with
  |tmp t=>simp only[gR] at h;split at h<;>cases h
  |cell a t=>
   simp only[gR] at h;split at h
   ·split at h
    ·split at h
     ·split at h<;>cases h
     ·cases h
    ·cases h
   ·cases h
theorem ey{P:Program}{l:List ResultVar}{x:RV}{xs:List RV}(h:gR P l=some (x::xs)):∃r l',l=r::l':=by
 cases l with
 |nil=>cases h
 |cons r l=>exact⟨r,l,rfl⟩
theorem uT{P:Program}{T:Tm}{H:Hp}:∀{r:List RV}{l:List ResultVar}{K:List AV→Prop},gR P l=some r→x2 T H r K→∃xs,iX P T H l=some xs∧xs.length=r.length∧K xs
 |[],l,K,h,hk=>by
  have:=gX h;subst this;exact⟨[],rfl,rfl,hk⟩
 |a::r,l,K,h,hk=>by
  obtain⟨r1,l1,rfl⟩:=ey h;have hk:aB (rv T H a) fun x=>x2 T H r fun xs=>K (x::xs):=hk;cases hv:rv T H a with
  |none=>rw[hv] at hk;exact hk.elim
  |some v=>
   rw[hv] at hk;obtain⟨h1,e1⟩:=nz h hv;obtain⟨xs,h2,h3,h4⟩:=uT h1 hk;exact⟨v::xs,by rw[e1,h2],by simp[h3],h4⟩
theorem zi{P:Program}{T:Tm}{H:Hp}{K:AV→Prop}{l:List ResultVar}{r:List RV}(h:gR P l=some r)(hk:bt T H K r):aB (kp P T H l) K:=by
 have one:∀{x:RV}{K':AV→Prop},aB (rv T H x) K'→∃v,rv T H x=some v∧K' v:=by
  intro x K' h;cases hv:rv T H x with
  |none=>rw[hv] at h;exact h.elim
  |some v=>rw[hv] at h;exact⟨v,rfl,h⟩
 rcases r with _|⟨a,_|⟨b,_|⟨c,_|⟨d,r⟩⟩⟩⟩
 ·have:=gX h;subst this;exact hk
 ·obtain⟨r1,l1,rfl⟩:=ey h;obtain⟨v,hv,hk⟩:=one hk;obtain⟨h1,e1⟩:=nz h hv;have:=gX h1;subst this;simp only[kp,e1,iX];exact hk
 ·obtain⟨r1,l1,rfl⟩:=ey h;obtain⟨v,hv,hk⟩:=one hk;obtain⟨h1,e1⟩:=nz h hv;obtain⟨r2,l2,rfl⟩:=ey h1;obtain⟨v2,hv2,hk⟩:=one hk;obtain⟨h2,e2⟩:=nz h1 hv2;have:=gX h2;subst this;simp only[kp,e1,e2,iX];exact hk
 ·obtain⟨r1,l1,rfl⟩:=ey h;obtain⟨v,hv,hk⟩:=one hk;obtain⟨h1,e1⟩:=nz h hv;obtain⟨r2,l2,rfl⟩:=ey h1;obtain⟨v2,hv2,hk⟩:=one hk;obtain⟨h2,e2⟩:=nz h1 hv2;obtain⟨r3,l3,rfl⟩:=ey h2;obtain⟨v3,hv3,hk⟩:=one hk;obtain⟨h3,e3⟩:=nz h2 hv3;have:=gX h3;subst this;simp only[kp,e1,e2,e3,iX];exact hk
 ·have hk:x2 T H (a::b::c::d::r) fun xs=>K (.tup xs):=hk;obtain⟨xs,h1,h2,h3⟩:=uT h hk;unfold kp;rw[h1];rcases xs with _|⟨x,_|⟨y,xs⟩⟩
  ·simp at h2
  ·simp at h2
  ·exact h3
structure Is(P:Program)(f:FuncId)(F:F2):Prop where
 out:∃fn,P.funcs[f]?=some fn∧ra P fn=some F
theorem Is.mk'{P:Program}{f:FuncId}{F:F2}{fn:Func}(h1:P.funcs[f]?=some fn)(h2:ra P fn=some F):Is P f F:=⟨fn,h1,h2⟩
theorem Is.cok{P:Program}{f:FuncId}{F:F2}(h:Is P f F):cok P f=true:=by
 obtain⟨fn,h1,h2⟩:=h.out;unfold ra at h2;split at h2
 ·rename_i c hc;split at h2
  ·cases h2
  ·rename_i hn;unfold Go.Abs.cok;simp only[h1,hc,Option.isSome_some,Bool.true_and,Bool.not_eq_true'];simpa using hn
 ·cases h2
theorem Is.bodyOk{P:Program}{f:FuncId}{F:F2}(h:Is P f F)(hm:P.follows .mixedOrders=true){args:List AV}{H:Hp}{nx:Nat}{K:AV→Hp→Nat→Prop}(hl:args.length≤F.n)
    (hb:aG P F.body (T0 args) H nx fun e T H nx=>aU e.ends (bt T H (fun x=>K x H nx) F.res)):∃fn,P.funcs[f]?=some fn∧qm P fn args H nx K:=by
 obtain⟨fn,h1,h2⟩:=h.out;refine⟨fn,h1,?_⟩;unfold ra at h2;split at h2
 ·rename_i c hc;split at h2
  ·cases h2
  ·split at h2
   ·rename_i b r hb' hr;cases h2;exact⟨c,hc,hl,ef c (fI hm c b hb' hb) (fun e T H nx hh=>⟨hh.1,zi hr hh.2⟩)⟩
   ·cases h2
 ·cases h2
theorem Pure.of_c2{P:Program}{f:FuncId}{F:F2}{args:List AV}{r:AV}(hm:P.follows .mixedOrders=true)(hf:Is P f F)(hl:args.length≤F.n)
    (hb:aG P F.body (T0 args) bA 0 fun e T H nx=>aU e.ends (bt T H (fun x=>Snap H x r) F.res)):Pure P f args r:=by
 obtain⟨fn,h1,h2⟩:=hf.bodyOk hm (K:=fun x H nx=>Snap H x r) hl hb;exact Pure.of_body hm h1 hf.cok h2
theorem Fn.of_c2{P:Program}{f:FuncId}{F:F2}{args:List AV}{H:Hp}{nx:Nat}{K:AV→Hp→Nat→Prop}(hm:P.follows .mixedOrders=true)(hf:Is P f F)(hl:args.length≤F.n)
    (hb:aG P F.body (T0 args) H nx fun e T H nx=>aU e.ends (bt T H (fun x=>K x H nx) F.res)):Fn P f args H nx K:=by
 obtain⟨fn,h1,h2⟩:=hf.bodyOk hm (K:=K) hl hb;exact Fn.of_body hm h1 hf.cok h2
theorem PureF.of_c2{P:Program}{f:FuncId}{F:F2}{args:List AV}{r:AV}(hm:P.follows .mixedOrders=true)(hf:Is P f F)(hl:args.length≤F.n)
    (hb:aG P F.body (T0 args) bA 0 fun e T H nx=>aU e.ends (bt T H (fun x=>SnapF H x r) F.res)):PureF P f args r:=
 PureF.of_fn (Fn.of_c2 hm hf hl hb)
end Go.Abs
namespace Go.Abs
open Go.RowKit
theorem yi{i:Ins}{T:Tm}{H:Hp}{nx:Nat}{K K':AV→Hp→Nat→Prop}(h:isp i T H nx K)(hK:∀r H nx,K r H nx→K' r H nx):isp i T H nx K':=by
 cases i<;>first|exact h|skip
 ·exact⟨h.1,h.2.imp (hK _ _ _) (hK _ _ _)⟩
 ·rcases h with⟨b,ks,vs,r,h1,h2,h3,h4,h5⟩|⟨b,ks,vs,bs,ck,r,h1,h2,h3,h4,h5⟩
  ·exact .inl ⟨b,ks,vs,r,h1,h2,h3,h4,hK _ _ _ h5⟩
  ·exact .inr ⟨b,ks,vs,bs,ck,r,h1,h2,h3,h4,hK _ _ _ h5⟩
 ·obtain⟨b,ks,vs,bs,ck,r,h1,h2,h3,h4,h5⟩:=h;exact⟨b,ks,vs,bs,ck,r,h1,h2,h3,h4,hK _ _ _ h5⟩
 ·rcases h with⟨b,ks,vs,r,h1,h2,h3,h4,h5⟩|⟨b,ks,vs,bs,ck,r,h1,h2,h3,h4,h5⟩
  ·exact .inl ⟨b,ks,vs,r,h1,h2,h3,h4,hK _ _ _ h5⟩
  ·exact .inr ⟨b,ks,vs,bs,ck,r,h1,h2,h3,h4,hK _ _ _ h5⟩
 ·rcases h with⟨b,ks,vs,h1,h2,h3⟩|⟨b,ks,vs,bs,ck,h1,h2,h3⟩
  ·exact .inl ⟨b,ks,vs,h1,h2,hK _ _ _ h3⟩
  ·exact .inr ⟨b,ks,vs,bs,ck,h1,h2,hK _ _ _ h3⟩
 ·rcases h with⟨b,ks,vs,h1,h2,h3⟩|⟨b,ks,vs,bs,ck,h1,h2,h3⟩
  ·exact .inl ⟨b,ks,vs,h1,h2,hK _ _ _ h3⟩
  ·exact .inr ⟨b,ks,vs,bs,ck,h1,h2,hK _ _ _ h3⟩
 ·rcases h with⟨b,m,n0,seen,ks,vs,h1,h2,h3,hn,h4,h5⟩|⟨b,m,ck,seen,ks,vs,bs,h1,h2,h3,h4,h5⟩
  ·exact .inl ⟨b,m,n0,seen,ks,vs,h1,h2,h3,hn,fun i hi hs=>hK _ _ _ (h4 i hi hs),fun h=>hK _ _ _ (h5 h)⟩
  ·exact .inr ⟨b,m,ck,seen,ks,vs,bs,h1,h2,h3,fun i s hi hs=>hK _ _ _ (h4 i s hi hs),fun h=>hK _ _ _ (h5 h)⟩
 ·rcases h with⟨b,m,n0,i,seen,ks,vs,h1,h2,h3,h4,h5,h6,h7⟩|⟨b,m,ck,i,s,seen,ks,vs,bs,h1,h2,h3,h5,h6,h7⟩
  ·exact .inl ⟨b,m,n0,i,seen,ks,vs,h1,h2,h3,h4,h5,h6,hK _ _ _ h7⟩
  ·exact .inr ⟨b,m,ck,i,s,seen,ks,vs,bs,h1,h2,h3,h5,h6,hK _ _ _ h7⟩
 ·obtain⟨n,H',h1,h2⟩:=h;exact⟨n,H',h1,hK _ _ _ h2⟩
 ·obtain⟨H',h1,h2⟩:=h;exact⟨H',h1,hK _ _ _ h2⟩
 ·obtain⟨b,n,off,cs,h1,h2,h3,h4,h5⟩:=h;exact⟨b,n,off,cs,h1,h2,h3,h4,hK _ _ _ h5⟩
 ·obtain⟨k,h1,h2⟩:=h;exact⟨k,h1,fun h=>hK _ _ _ (h2.1 h),fun h=>⟨hK _ _ _ (h2.2 h).1,hK _ _ _ (h2.2 h).2⟩⟩
 ·obtain⟨bs,h1,h2,h3⟩:=h;exact⟨bs,h1,fun h=>hK _ _ _ (h2 h),fun h=>hK _ _ _ (h3 h)⟩
 ·obtain⟨n,bs,h1,h2⟩:=h;exact⟨n,bs,h1,hK _ _ _ h2⟩
 ·obtain⟨b,ks,vs,r,h1,h2,h3,h4,h5⟩:=h;exact⟨b,ks,vs,r,h1,h2,h3,h4,hK _ _ _ h5⟩
 ·obtain⟨b,ks,vs,i,h1,h2,h3,h4,h5⟩:=h;exact⟨b,ks,vs,i,h1,h2,h3,h4,hK _ _ _ h5⟩
theorem js{P:Program}{dm:DM}{i:Ins}{T:Tm}{H:Hp}{nx:Nat}{K K':AV→Hp→Nat→Prop}(h:bh P dm i T H nx K)(hK:∀r H nx,K r H nx→K' r H nx):bh P dm i T H nx K':=by
 unfold bh at h ⊢;split at h
 ·exact⟨h.1,jS (fun a=>hK _ _ _) h.2⟩
 ·exact⟨h.1,jS (fun a=>hK _ _ _) h.2⟩
 ·split at h
  ·rcases h with h|⟨h1,⟨b,h2,h3⟩|⟨g,fs,h2,h3⟩⟩
   ·left;refine jS (fun b=>?_) h;intro h;cases hd:dm.isText with
    |false=>rw[hd] at h;obtain⟨r,h1,h3⟩:=h;exact⟨r,h1,hK _ _ _ h3⟩
    |true=>rw[hd] at h;exact Fn.mono h hK
   ·exact .inr ⟨h1,.inl ⟨b,h2,h3.mono hK⟩⟩
   ·exact .inr ⟨h1,.inr ⟨g,fs,h2,h3.mono hK⟩⟩
  ·exact h
 ·exact⟨h.1,yi h.2 hK⟩
theorem eY{P:Program}{dm:DM}{K K':SP}(hK:∀T H nx,K T H nx→K' T H nx):∀(l:List Op2){T:Tm}{H:Hp}{nx:Nat},al P dm l T H nx K→al P dm l T H nx K'
 |[],_,_,_,h=>hK _ _ _ h
 |o::l,T,H,nx,h=>by
  have h:aX (g2 T o.g) (bh P dm o.i T H nx fun r H nx=>al P dm l (aH T o.d r) H nx K) (al P dm l (aH T o.d (.tup [])) H nx K):=h;show aX (g2 T o.g) (bh P dm o.i T H nx fun r H nx=>al P dm l (aH T o.d r) H nx K') (al P dm l (aH T o.d (.tup [])) H nx K');cases hg:g2 T o.g with
  |none=>rw[hg] at h;exact h.elim
  |some b=>
   rw[hg] at h;cases b with
   |true=>
    have h:bh P dm o.i T H nx fun r H nx=>al P dm l (aH T o.d r) H nx K:=h;exact js h (fun _ _ _ hh=>eY hK l hh)
   |false=>exact eY hK l h
theorem cP{P:Program}{S:Hp}{K K':SP}(hK:∀T H nx,K T H nx→K' T H nx):∀(l:List (Op2×Nat)){T:Tm}{H:Hp}{nx:Nat},be P S l T H nx K→be P S l T H nx K'
 |[],_,_,_,h=>hK _ _ _ h
 |(o,0)::l,T,H,nx,h=>by
  simp only[be] at h ⊢;cases hg:g2 T o.g with
  |none=>rw[hg] at h;exact h.elim
  |some b=>
   rw[hg] at h;cases b with
   |true=>
    have h:aB (bk T S o.i) fun r=>be P S l (aH T o.d r) H nx K:=h;show aB (bk T S o.i) fun r=>be P S l (aH T o.d r) H nx K';obtain⟨r,hr,hh⟩:=cf h;rw[hr];exact cP hK l hh
   |false=>exact cP hK l h
 |(o,k+1)::l,T,H,nx,h=>by
  simp only[be] at h ⊢;cases hg:g2 T o.g with
  |none=>rw[hg] at h;exact h.elim
  |some b=>
   rw[hg] at h;cases b with
   |true=>
    have h:if k=2 then aB (pd T o.i) fun r=>be P S l (aH T o.d r) H nx K else if k=3 then aB (ilk T S o.i) fun r=>be P S l (aH T o.d r) H nx K else bh P .text o.i T H nx fun r H' nx'=>(k=0→Sub S H')∧be P S l (aH T o.d r) H' nx' K:=h
    show if k=2 then aB (pd T o.i) fun r=>be P S l (aH T o.d r) H nx K' else if k=3 then aB (ilk T S o.i) fun r=>be P S l (aH T o.d r) H nx K' else bh P .text o.i T H nx fun r H' nx'=>(k=0→Sub S H')∧be P S l (aH T o.d r) H' nx' K'
    split
    ·rename_i hk;rw[if_pos hk] at h;obtain⟨r,hr,hh⟩:=cf h;rw[hr];exact cP hK l hh
    ·rename_i hk;rw[if_neg hk] at h;split
     ·rename_i hk;rw[if_pos hk] at h;obtain⟨r,hr,hh⟩:=cf h;rw[hr];exact cP hK l hh
     rename_i hk;rw[if_neg hk] at h;exact js h (fun _ _ _ hh=>⟨hh.1,cP hK l hh.2⟩)
   |false=>exact cP hK l h
theorem ma{P:Program}{S:Hp}{f:Op2×Nat}{l2:List (Op2×Nat)}{K K':SP}(hK:∀T H nx,K T H nx→K' T H nx):∀(l:List (Op2×Nat)){T:Tm}{H:Hp}{nx:Nat},jQ P S f l2 l T H nx K→jQ P S f l2 l T H nx K'
 |[],_,_,_,h=>cP hK _ h
 |x::l,_,_,_,h=>⟨fun hx=>cP hK _ (h.1 hx),cP (fun _ _ _=>ma hK l) _ h.2⟩
theorem dC{P:Program}:∀(c:C2){T:Tm}{H:Hp}{nx:Nat}{K K':CP},aG P c T H nx K→(∀e T H nx,K e T H nx→K' e T H nx)→aG P c T H nx K'
 |.skip,_,_,_,_,_,h,hK=>hK _ _ _ _ h
 |.exit _,_,_,_,_,_,h,hK=>hK _ _ _ _ h
 |.ret,_,_,_,_,_,h,hK=>hK _ _ _ _ h
 |.ops m l,_,_,_,_,_,h,hK=>let ⟨T,H,nx,Hf,hg,h⟩:=h;⟨T,H,nx,Hf,hg,eY (hK .normal) l h⟩
 |.mix m l C,_,_,_,_,_,h,hK=>h.imp (fun⟨h9,T,H,nx,Hf,hg,h⟩=>⟨h9,T,H,nx,Hf,hg,eY (hK .normal) l h⟩) (fun⟨T,H,nx,Hf,hg,h⟩=>⟨T,H,nx,Hf,hg,eY (hK .normal) _ h⟩)
 |.mixS m l C,_,_,_,_,_,h,hK=>h.imp (fun⟨h9,T,H,nx,Hf,hg,h⟩=>⟨h9,T,H,nx,Hf,hg,eY (hK .normal) l h⟩) (fun⟨T,H,nx,Hf,S,hg,hs,h⟩=>⟨T,H,nx,Hf,S,hg,hs,cP (hK .normal) _ h⟩)
 |.mixF l f C D,_,_,_,_,_,h,hK=>let ⟨T,H,nx,Hf,S,hg,hs,h⟩:=h;⟨T,H,nx,Hf,S,hg,hs,ma (hK .normal) _ h⟩
 |.seq x y,_,_,_,K,K',h,hK=>by
  refine dC x h (fun e T H nx h=>?_);cases e with
  |normal=>exact dC y h hK
  |exit i=>exact hK _ _ _ _ h
  |ret=>exact hK _ _ _ _ h
 |.cond c x y,T,H,nx,K,K',h,hK=>by
  simp only[aG] at h ⊢;unfold a9 at h ⊢;split at h
  ·exact⟨fun hb=>dC x (h.1 hb) hK,fun hb=>dC y (h.2 hb) hK⟩
  ·exact h
 |.block id b,_,_,_,_,_,h,hK=>dC b h (fun e T H nx h=>hK _ _ _ _ h)
 |.loop b,T,H,nx,K,K',h,hK=>by
  obtain⟨n,h⟩:=h;refine⟨n,?_⟩
  induction n generalizing T H nx with
  |zero=>exact h
  |succ n ih=>
   obtain⟨T',H',nx',Hf,hw,h⟩:=h;refine⟨T',H',nx',Hf,hw,dC b h (fun e T H nx h=>?_)⟩;cases e with
   |normal=>exact ih _ _ _ h
   |exit i=>exact hK _ _ _ _ h
   |ret=>exact hK _ _ _ _ h
 |.rangeF g ps a b,T,H,nx,K,K',h,hK=>by
  obtain⟨f,caps,h1,h2⟩:=h;refine⟨f,caps,h1,fun c0 cj hy=>Fn.mono (h2 c0 cj hy) ?_⟩;rintro r H' nx' (⟨k1,k2⟩|⟨e,k1,k2,k3⟩)
  ·exact .inl ⟨k1,hK _ _ _ _ k2⟩
  ·exact .inr ⟨e,k1,k2,hK _ _ _ _ k3⟩
theorem zS{P:Program}{b:C2}{T:Tm}{H:Hp}{nx:Nat}{K:CP}{X:Type}(TT:X→Tm)(HH:X→Hp)(NX:X→Nat)(φ:X→Prop)(μ:X→Nat)
    (start:∃x,φ x∧∃Hf,Gh T H nx (TT x) (HH x) (NX x) Hf)
    (step:∀x,φ x→aG P b (TT x) (HH x) (NX x) fun e T H nx=>aV e (∃y,φ y∧μ y<μ x∧∃Hf,Gh T H nx (TT y) (HH y) (NX y) Hf) (K e T H nx)):a7 (aG P b) T H nx K:=by
 have key:∀n x T H nx,μ x<n→φ x→(∃Hf,Gh T H nx (TT x) (HH x) (NX x) Hf)→qW (aG P b) K n T H nx:=by
  intro n
  induction n with
  |zero=>intro x T H nx h;omega
  |succ n ih=>
   intro x T H nx hn hx ⟨Hf,hg⟩;refine⟨_,_,_,Hf,hg,dC b (step x hx) (fun e T H nx h=>?_)⟩;cases e with
   |normal=>
    obtain⟨y,h1,h2,h3⟩:=h;exact ih y T H nx (by omega) h1 h3
   |exit i=>exact h
   |ret=>exact h
 obtain⟨x,hx,hg⟩:=start;exact⟨_,key _ x T H nx (ms _) hx hg⟩
def tl:List (Nat×AV)→Tm
 |[],_=>.undef
 |(d,v)::l,t=>if t=d then v else tl l t
def agr(T:Tm):List (Nat×AV)→Prop
 |[]=>True
 |(d,v)::l=>T d=v∧agr T l
theorem od{T:Tm}:∀{l:List (Nat×AV)},agr T l→∀t,tl l t=.undef∨tl l t=T t
 |[],_,t=>.inl rfl
 |(d,v)::l,h,t=>by
  simp only[tl];split
  ·rename_i e;subst e;exact .inr h.1.symm
  ·exact od h.2 t
theorem Gh.weak{T T':Tm}{H:Hp}{nx:Nat}(h:∀t,T' t=.undef∨T' t=T t):Gh T H nx T' H nx bA:=
 ⟨fun _ _ h=>(by cases h),aM _,fun b cs h=>.inl ⟨cs,h,rfl,rfl,fun i x x' h1 h2=>.inl (by rw[h1] at h2;cases h2;rfl)⟩,fun t=>(h t).imp id .inl⟩
theorem dJ{P:Program}{b:C2}{T:Tm}{H:Hp}{nx:Nat}{K:CP}{X:Type}(L:X→List (Nat×AV))(φ:X→Prop)(μ:X→Nat)(x0:X)
    (h0:φ x0) (hT:agr T (L x0))
    (step:∀x,φ x→aG P b (tl (L x)) H nx fun e T H' nx'=>aV e (∃y,φ y∧μ y<μ x∧agr T (L y)∧H'=H∧nx'=nx) (K e T H' nx')):a7 (aG P b) T H nx K:=by
 refine zS (fun x=>tl (L x)) (fun _=>H) (fun _=>nx) φ μ ⟨x0,h0,_,Gh.weak (od hT)⟩ (fun x hx=>dC b (step x hx) (fun e T H' nx' h=>?_));cases e with
 |normal=>
  obtain⟨y,h1,h2,h3,rfl,rfl⟩:=h;exact⟨y,h1,h2,_,Gh.weak (od h3)⟩
 |exit i=>exact h
 |ret=>exact h
@[congr] theorem aloop_congr {b:Tm→Hp→Nat→CP→Prop} {T:Tm} {H:Hp} {nx nx':Nat} {K:CP} (h:nx=nx'):a7 b T H nx K=a7 b T H nx' K:=by rw[h]
@[congr] theorem awp2_congr {P P':Program} {c:C2} {T:Tm} {H:Hp} {nx:Nat} {K:CP} (h:P=P'):aG P c T H nx K=aG P' c T H nx K:=by rw[h]
@[congr] theorem aops2_congr {P P':Program} {dm:DM} {l:List Op2} {T:Tm} {H:Hp} {nx:Nat} {K:SP} (h:P=P'):al P dm l T H nx K=al P' dm l T H nx K:=by rw[h]
@[congr] theorem ains_congr {P P':Program} {dm:DM} {i:Ins} {T:Tm} {H:Hp} {nx:Nat} {K:AV→Hp→Nat→Prop} (h:P=P'):bh P dm i T H nx K=bh P' dm i T H nx K:=by rw[h]
theorem zt{k:IntKind}{a b:Int}{tb tf:Bool}:bb .lss tb tf (.int k a) (.int k b)=some (.bool (decide (a<b))):=by simp[bb,ea]
theorem zm{k:IntKind}{a b:Int}{tb tf:Bool}:bb .leq tb tf (.int k a) (.int k b)=some (.bool (decide (a≤b))):=by simp[bb,ea]
theorem yM{k:IntKind}{a b:Int}{tb tf:Bool}:bb .gtr tb tf (.int k a) (.int k b)=some (.bool (decide (a>b))):=by simp[bb,ea]
theorem zw{k:IntKind}{a b:Int}{tb tf:Bool}:bb .geq tb tf (.int k a) (.int k b)=some (.bool (decide (a≥b))):=by simp[bb,ea]
theorem ze{k:IntKind}{a b:Int}{tb tf:Bool}:bb .eql tb tf (.int k a) (.int k b)=some (.bool (decide (a=b))):=by
 simp only[bb,ea];simp;by_cases h:a=b<;>simp[h]
theorem yC{k:IntKind}{a b:Int}{tb tf:Bool}:bb .neq tb tf (.int k a) (.int k b)=some (.bool (decide (a≠b))):=by
 simp[bb,ea,bne];rfl
theorem za{k:IntKind}{a b:Int}{tb tf:Bool}:bb .add tb tf (.int k a) (.int k b)=some (.int k (k.wrap (a+b))):=by simp[bb,ea]
theorem zj{k:IntKind}{a b:Int}{tb tf:Bool}:bb .sub tb tf (.int k a) (.int k b)=some (.int k (k.wrap (a-b))):=by simp[bb,ea]
theorem yQ{k:IntKind}{a b:Int}{tb tf:Bool}:bb .mul tb tf (.int k a) (.int k b)=some (.int k (k.wrap (a*b))):=by simp[bb,ea]
theorem j5{a:Int}(h1:-9223372036854775808≤a)(h2:a≤9223372036854775807):IntKind.wrap .i64 a=a:=by
 rw[IntKind.wrap_i64];omega
end Go.Abs
namespace Go.Abs
open Go.RowKit
variable{P:Program}{T:Tm}{H:Hp}{nx:Nat}
theorem AB{K:CP}(h:K .normal T H nx):aG P .skip T H nx K:=h
theorem AK{K:CP}{i:Nat}(h:K (.exit i) T H nx):aG P (.exit i) T H nx K:=h
theorem Cf{K:CP}(h:K .ret T H nx):aG P .ret T H nx K:=h
theorem Az{K:CP}{l:List Op2}(h:al P .text l T H nx fun T H nx=>K .normal T H nx):aG P (.ops 0 l) T H nx K:=⟨T,H,nx,_,Gh.refl _ _ _,h⟩
theorem AF{K:CP}{l:List Op2}{C:List Nat}(h:al P .draw l T H nx fun T H nx=>K .normal T H nx):aG P (.mix 1 l C) T H nx K:=.inl ⟨by decide,T,H,nx,_,Gh.refl _ _ _,h⟩
theorem Ao{K:CP}{l:List Op2}{C:List Nat}(h:al P (.fresh nx) l T H nx fun T H nx=>K .normal T H nx):aG P (.mix 2 l C) T H nx K:=.inl ⟨by decide,T,H,nx,_,Gh.refl _ _ _,h⟩
theorem yS{K:CP}{l:List Op2}{C:List (Nat×Nat)}(h:al P .draw l T H nx fun T H nx=>K .normal T H nx):aG P (.mixS 1 l C) T H nx K:=.inl ⟨by decide,T,H,nx,_,Gh.refl _ _ _,h⟩
theorem yz{K:CP}{l:List Op2}{C:List (Nat×Nat)}(h:al P (.fresh nx) l T H nx fun T H nx=>K .normal T H nx):aG P (.mixS 2 l C) T H nx K:=.inl ⟨by decide,T,H,nx,_,Gh.refl _ _ _,h⟩
theorem AI(S:Hp){K:CP}{m:Nat}{l:List Op2}{alt:List (Op2×Nat)}{C:List (Nat×Nat)}(ha:(C.map fun k=>(l.getD k.1 ⟨none,none,.dead⟩,k.2))=alt)(hs:Sub S H)(h:be P S alt T H nx fun T H nx=>K .normal T H nx):aG P (.mixS m l C) T H nx K:=by
 subst ha;exact .inr ⟨T,H,nx,_,S,Gh.refl _ _ _,hs,h⟩
theorem Bl{S:Hp}{K:SP}(h:K T H nx):be P S [] T H nx K:=h
theorem BZ{S:Hp}{K:SP}{l:List (Op2×Nat)}{d:Option Nat}{i:Ins}{r:AV}(h:bk T S i=some r)(k:be P S l (aH T d r) H nx K):be P S ((⟨d,none,i⟩,0)::l) T H nx K:=by
 show aB (bk T S i) fun r=>be P S l (aH T d r) H nx K;rw[h];exact k
theorem Bs{S:Hp}{K:SP}{l:List (Op2×Nat)}{d:Option Nat}{len:Nat}{z cs:List AV}{parts:List (Nat×Nat×Opd)}{pv:List (Nat×Nat×AV)}(hp:parts.map (fun p=>(p.1,p.2.1,ov T p.2.2))=pv)(hc:dw (bn (.agg z) len) pv=some cs)(hl:len≠0)(hn:cs.length=len)(ho:cs.all AV.one=true)
    (k:be P S l (aH T d (.sl 1 cs)) H nx K):be P S ((⟨d,none,.bldS 1 len z parts⟩,3)::l) T H nx K:=by
 show aB (pd T (.bldS 1 len z parts)) _
 have:pd T (.bldS 1 len z parts)=some (.sl 1 cs):=by
  simp only[pd,gL,hl,if_false,hp,hc,nc,am,if_true,hn];rw[if_pos ⟨trivial,hl,ho⟩]
 rw[this];exact k
theorem qs{S:Hp}{K:SP}{l:List (Op2×Nat)}{d:Option Nat}{i:Ins}(k:al P .text [⟨d,none,i⟩] T H nx fun T H nx=>Sub S H∧be P S l T H nx K):be P S ((⟨d,none,i⟩,1)::l) T H nx K:=by
 have k:bh P .text i T H nx fun r H nx=>Sub S H∧be P S l (aH T d r) H nx K:=k;show bh P .text i T H nx fun r H' nx'=>(0=0→Sub S H')∧be P S l (aH T d r) H' nx' K;exact js k (fun _ _ _ h=>⟨fun _=>h.1,h.2⟩)
theorem w7{S:Hp}{K:SP}{l:List (Op2×Nat)}{d:Option Nat}{i:Ins}(k:al P .text [⟨d,none,i⟩] T H nx fun T H nx=>be P S l T H nx K):be P S ((⟨d,none,i⟩,2)::l) T H nx K:=by
 have k:bh P .text i T H nx fun r H nx=>be P S l (aH T d r) H nx K:=k;show bh P .text i T H nx fun r H' nx'=>(1=0→Sub S H')∧be P S l (aH T d r) H' nx' K;exact js k (fun _ _ _ h=>⟨fun hh=>absurd hh (by decide),h⟩)
theorem AX{K:CP}{l:List Op2}(h:al P .draw l T H nx fun T H nx=>K .normal T H nx):aG P (.ops 1 l) T H nx K:=⟨T,H,nx,_,Gh.refl _ _ _,h⟩
theorem Ar{K:CP}{l:List Op2}(h:al P (.fresh nx) l T H nx fun T H nx=>K .normal T H nx):aG P (.ops 2 l) T H nx K:=⟨T,H,nx,_,Gh.refl _ _ _,h⟩
theorem cC{K:CP}{x y:C2}(h:aG P x T H nx fun e T H nx=>aV e (aG P y T H nx K) (K e T H nx)):aG P (.seq x y) T H nx K:=h
theorem dg{K:CP}{i:Nat}{b:C2}(h:aG P b T H nx fun e T H nx=>K (lj i e) T H nx):aG P (.block i b) T H nx K:=h
theorem tx{K:CP}{c:Opd}{x y:C2}{b:Bool}(hc:ov T c=.bool b)(h1:b=true→aG P x T H nx K)(h2:b=false→aG P y T H nx K):aG P (.cond c x y) T H nx K:=by
 simp only[aG,hc];exact⟨h1,h2⟩
theorem uN{K:CP}{c:Opd}{x y:C2}(hc:ov T c=.bool true)(h1:aG P x T H nx K):aG P (.cond c x y) T H nx K:=
 tx hc (fun _=>h1) (fun h=>by cases h)
theorem va{K:CP}{c:Opd}{x y:C2}(hc:ov T c=.bool false)(h2:aG P y T H nx K):aG P (.cond c x y) T H nx K:=
 tx hc (fun h=>by cases h) (fun _=>h2)
theorem xo{K:CP}{b:C2}(h:a7 (aG P b) T H nx K):aG P (.loop b) T H nx K:=h
theorem a_n{A B:Prop}(h:A):aV .normal A B:=h
theorem a_x{A B:Prop}{i:Nat}(h:B):aV (.exit i) A B:=h
theorem a_r{A B:Prop}(h:B):aV .ret A B:=h
theorem uL{dm:DM}{K:SP}(h:K T H nx):al P dm [] T H nx K:=h
theorem gJ{dm:DM}{K:SP}{l:List Op2}{d:Option Nat}{i:Ins}{r:AV}(hi:ic i=.val)(hd:dm2 dm T i=true)(h:bk T H i=some r)(k:al P dm l (aH T d r) H nx K):al P dm (⟨d,none,i⟩::l) T H nx K:=by
 show bh P dm i T H nx fun r H nx=>al P dm l (aH T d r) H nx K;unfold bh;rw[hi];exact⟨hd,by rw[h];exact k⟩
theorem mc{dm:DM}{K:SP}{l:List Op2}{d:Option Nat}{i:Ins}{r:AV}{H':Hp}{nx':Nat}(hi:ic i=.eff)(hd:dm2 dm T i=true)(h:gL T H nx i=some (r,H',nx'))(k:al P dm l (aH T d r) H' nx' K):al P dm (⟨d,none,i⟩::l) T H nx K:=by
 show bh P dm i T H nx fun r H nx=>al P dm l (aH T d r) H nx K;unfold bh;rw[hi];exact⟨hd,by rw[h];exact k⟩
theorem lC{K:SP}{l:List Op2}{d:Option Nat}{f:Opd}{args:List Opd}{g:FuncId}{caps:List AV}(hf:ov T f=.func g caps)(k:Fn P g (args.map (ov T)++caps) H nx fun r H nx=>al P .text l (aH T d r) H nx K):
    al P .text (⟨d,none,.call f args⟩::l) T H nx K:=by
 left;show aB (kA (ov T f)) _;rw[hf];exact k
theorem uZ{dm:DM}(hdm:dm.isText=false){K:SP}{l:List Op2}{d:Option Nat}{f:Opd}{args:List Opd}{g:FuncId}{caps:List AV}(hf:ov T f=.func g caps)(k:aZ P g (args.map (ov T)++caps) H fun r=>al P dm l (aH T d r) H nx K):
    al P dm (⟨d,none,.call f args⟩::l) T H nx K:=by
 left;show aB (kA (ov T f)) _;rw[hf];show(match dm.isText with|false=>_|true=>_);rw[hdm];exact k
theorem uU{K:SP}{l:List Op2}{d:Option Nat}{f:Opd}{args:List Opd}{b:Nat}{xs:List AV}(hf:ov T f=.yld b)(ha:args.map (ov T)=xs)(k:Yl P b xs H nx fun r H nx=>al P .text l (aH T d r) H nx K):
    al P .text (⟨d,none,.call f args⟩::l) T H nx K:=by
 right;exact⟨rfl,.inl ⟨b,hf,by rw[ha];exact k⟩⟩
theorem qb{K:SP}{l:List Op2}{d:Option Nat}{i:Ins}(hi:ic i=.sp)(k:isp i T H nx fun r H nx=>al P .text l (aH T d r) H nx K):al P .text (⟨d,none,i⟩::l) T H nx K:=by
 show bh P .text i T H nx fun r H nx=>al P .text l (aH T d r) H nx K;unfold bh;rw[hi];exact⟨rfl,k⟩
theorem zP{K:SP}{l:List Op2}{d:Option Nat}(k:al P .text l (aH T d (.mp nx)) (am H nx [.omap [] []]) (nx+1) K):al P .text (⟨d,none,.mkm none⟩::l) T H nx K:=qb rfl ⟨.inl rfl,.inl k⟩
theorem iE{K:SP}{l:List Op2}{d:Option Nat}{kk:MK}{m key x:Opd}{b:Nat}{ks vs:List AV}{kv xv:AV}{r:Option Nat}(hm:ov T m=.mp b)(hb:H b=some [.omap ks vs])(hk:ov T key=kv)(hx:ov T x=xv)(hfit:je kk kv=true)(hr:cR kk kv ks=some r)
    (k:al P .text l (aH T d (.tup [])) (am H b [.omap (cW kv r ks) (fw xv r vs)]) nx K):al P .text (⟨d,none,.mput kk m key x⟩::l) T H nx K:=by
 subst hk hx;exact qb rfl (.inl ⟨b,ks,vs,r,hm,hb,hfit,hr,k⟩)
theorem AD{K:SP}{l:List Op2}{d:Option Nat}{kk:MK}{z:AV}{ok:Bool}{m key:Opd}{b:Nat}{ks vs:List AV}{kv:AV}{r:Option Nat}(hm:ov T m=.mp b)(hb:H b=some [.omap ks vs])(hk:ov T key=kv)(hfit:je kk kv=true)(hr:cR kk kv ks=some r)
    (k:al P .text l (aH T d (mget z ok r vs)) H nx K):al P .text (⟨d,none,.mget kk z ok m key⟩::l) T H nx K:=by
 subst hk;exact qb rfl (.inl ⟨b,ks,vs,r,hm,hb,hfit,hr,k⟩)
theorem AJ{K:SP}{l:List Op2}{d:Option Nat}{m:Opd}{b:Nat}{ks vs:List AV}(hm:ov T m=.mp b)(hb:H b=some [.omap ks vs])(k:al P .text l (aH T d (.int .i64 ks.length)) H nx K):al P .text (⟨d,none,.mlen m⟩::l) T H nx K:=qb rfl (.inl ⟨b,ks,vs,hm,hb,k⟩)
theorem AE{K:SP}{l:List Op2}{d:Option Nat}{m:Opd}{b:Nat}{ks vs:List AV}(hm:ov T m=.mp b)(hb:H b=some [.omap ks vs])(k:al P .text l (aH T d (.itr nx)) (am H nx [.oiter b ks.length []]) (nx+1) K):al P .text (⟨d,none,.mrng m⟩::l) T H nx K:=qb rfl (.inl ⟨b,ks,vs,hm,hb,k⟩)
theorem AY{K:SP}{l:List Op2}{d:Option Nat}{it:Opd}{b m n0:Nat}{seen:List Nat}{ks vs:List AV}(hi:ov T it=.itr b)(hb:H b=some [.oiter m n0 seen])(hm:H m=some [.omap ks vs])(hkn:ks.length=n0)
    (h1:∀i,i<ks.length→i∉seen→al P .text l (aH T d (.tup [.bool true,ks.getD i .undef,vs.getD i .undef])) (am H b [.oiter m n0 (seen++[i])]) nx K)
    (h2:(∀i,i<n0→i<ks.length→i∈seen)→al P .text l (aH T d (.tup [.bool false])) H nx K):al P .text (⟨d,none,.mnxt it⟩::l) T H nx K:=qb rfl (.inl ⟨b,m,n0,seen,ks,vs,hi,hb,hm,hkn,h1,h2⟩)
theorem AC{K:SP}{l:List Op2}{d:Option Nat}{it:Opd}{b m n0 i:Nat}{seen:List Nat}{ks vs:List AV}(hi:ov T it=.itr b)(hb:H b=some [.oiter m n0 seen])(hm:H m=some [.omap ks vs])(hkn:ks.length=n0)(hl:seen.getLast?=some i)(hlt:i<ks.length)
    (k:al P .text l (aH T d (.tup [ks.getD i .undef,vs.getD i .undef])) H nx K):al P .text (⟨d,none,.ment it⟩::l) T H nx K:=qb rfl (.inl ⟨b,m,n0,i,seen,ks,vs,hi,hb,hm,hkn,hl,hlt,k⟩)
theorem B3{K:SP}{l:List Op2}{d:Option Nat}{sz:Nat}{z:AV}{x:Opd}{H':Hp}(h:lN sz z (ov T x) H=some H')(k:al P .text l (aH T d (.tup [])) H' nx K):al P .text (⟨d,none,.clr sz z x⟩::l) T H nx K:=qb rfl ⟨H',h,k⟩
theorem tn{K:SP}{l:List Op2}{d:Option Nat}{neg:Bool}{x:Opd}{k:Nat}(hx:jG (ov T x)=some k)(h1:0<k→al P .text l (aH T d (.bool neg)) H nx K)(h2:k=0→al P .text l (aH T d (.bool true)) H nx K)(h3:k=0→al P .text l (aH T d (.bool false)) H nx K):al P .text (⟨d,none,.snil neg x⟩::l) T H nx K:=qb rfl ⟨k,hx,h1,fun h=>⟨h2 h,h3 h⟩⟩
theorem yv{K:CP}{g:Opd}{ps:List Nat}{a b:C2}{f:FuncId}{caps:List AV}(hg:ov T g=.func f caps)
    (h:∀ (c0:AV) (cj:AEx→AV),(∀ (args:List AV) (H':Hp) (nx':Nat) (K':AV→Hp→Nat→Prop),H' nx=some [c0]→args.length=ps.length →
        aG P a (gZ T ps args) H' nx' (fun e T2 H2 nx2=>aV e (H2 nx=some [c0]∧aG P b T2 (dv H2 nx) nx2 fun e T3 H3 nx3=>aV e (K' (.bool true) (am H3 nx [c0]) nx3) (K' (.bool false) (am H3 nx [cj e]) nx3)) False)→
        Yl P nx args H' nx' K')→
     Fn P f (.yld nx::caps) (am H nx [c0]) (nx+1) fun _ H' nx'=>(H' nx=some [c0]∧K .normal T (dv H' nx) nx')∨ ∃e,e≠.normal∧H' nx=some [cj e]∧K e T (dv H' nx) nx'):aG P (.rangeF g ps a b) T H nx K:=⟨f,caps,hg,h⟩
theorem AM{dm:DM}{K:SP}{l:List Op2}{d:Option Nat}{i:Ins}{t:Nat}{w:Bool}(h:T t=.bool w)(k:al P dm (⟨d,none,i⟩::l) T H nx K):al P dm (⟨d,some (t,w),i⟩::l) T H nx K:=by
 show aX (g2 T (some (t,w))) _ _;have:g2 T (some (t,w))=some true:=by simp[g2,h]
 rw[this];exact k
theorem A6{dm:DM}{K:SP}{l:List Op2}{d:Option Nat}{i:Ins}{t:Nat}{w:Bool}(h:T t=.bool (!w)∨T t=.tup [])(k:al P dm l (aH T d (.tup [])) H nx K):al P dm (⟨d,some (t,w),i⟩::l) T H nx K:=by
 show aX (g2 T (some (t,w))) _ _
 have:g2 T (some (t,w))=some false:=by
  rcases h with h|h
  ·cases w<;>simp[g2,h]
  ·simp[g2,h]
 rw[this];exact k
theorem ae{e:AEx}{A:Prop}(he:e.ends=true)(h:A):aU e.ends A:=⟨he,h⟩
theorem r_1{K:AV→Prop}{a:RV}{x:AV}(ha:rv T H a=some x)(h:K x):bt T H K [a]:=by
 show aB (rv T H a) K;rw[ha];exact h
theorem r_2{K:AV→Prop}{a b:RV}{x y:AV}(ha:rv T H a=some x)(hb:rv T H b=some y)(h:K (.tup [x,y])):bt T H K [a,b]:=by
 show aB (rv T H a) _;rw[ha];show aB (rv T H b) _;rw[hb];exact h
theorem sZ{T:Tm}{t:Nat}{v:AV}(h:T t=v):upd T t v=T:=by
 funext x;simp only[upd];split
 ·rename_i e;rw[e,h]
 ·rfl
theorem Ce{dm:DM}{K:SP}{l:List Op2}{d:Option Nat}{i:Ins}{t:Nat}{w b:Bool}(h:T t=.bool b)(k1:b=w→al P dm (⟨d,none,i⟩::l) (upd T t (.bool w)) H nx K)
    (k2:b=!w→al P dm l (aH (upd T t (.bool (!w))) d (.tup [])) H nx K):al P dm (⟨d,some (t,w),i⟩::l) T H nx K:=by
 by_cases hb:b=w
 ·subst hb;have:=k1 rfl;rw[sZ h] at this;exact AM h this
 ·have hb':b=!w:=by cases b<;>cases w<;>simp_all
  subst hb';have:=k2 rfl;rw[sZ h] at this;exact A6 (.inl h) this
theorem sr{α:Type}{f:α→AV}{l:List α}{k:Nat}{u:AV}(d:α)(h:k<l.length):(l.map f).getD k u=f (l.getD k d):=by
 simp[List.getD,h]
theorem xF{c:Prop}[Decidable c]{x:Option AV}{r:AV}(hc:c)(h:x=some r):(if c then x else none)=some r:=by rw[if_pos hc];exact h
end Go.Abs
namespace Go.Abs
open Go.RowKit
def Dat(x:AV):Prop:=∀H,Snap H x x
theorem Dat.int{k:IntKind}{n:Int}:Dat (.int k n):=fun _=>.int _ _
theorem Dat.bool{b:Bool}:Dat (.bool b):=fun _=>.bool _
theorem Dat.str{s:ByteArray}:Dat (.str s):=fun _=>.str _
theorem Dat.esl:Dat .esl:=fun _=>.esl
theorem Dat.nilp:Dat .nilp:=fun _=>.nilp
theorem Dat.nilf:Dat .nilf:=fun _=>.nilf
theorem Dat.sl{sz:Nat}{l:List AV}(h:∀x∈l,∀c∈x.cells,Dat c):Dat (.sl sz l):=fun H=>
 .sl sz l l rfl (fun i x y hx hy=>by rw [hx] at hy; cases hy; rfl) (fun i j x y a b hx hy ha hb=>by
  rw[hx] at hy;cases hy;rw[ha] at hb;cases hb;exact h x (fh hx) a (fh ha) H)
theorem Dat.agg{l:List AV}(h:∀x∈l,Dat x):Dat (.agg l):=fun H=>
 .agg l l rfl (fun i a c ha hc=>by rw[ha] at hc;cases hc;exact h a (fh ha) H)
theorem Dat.tup{l:List AV}(h:∀x∈l,Dat x):Dat (.tup l):=fun H=>
 .tup l l rfl (fun i a c ha hc=>by rw[ha] at hc;cases hc;exact h a (fh ha) H)
theorem Dat.func{f:FuncId}{l:List AV}(h:∀x∈l,Dat x):Dat (.func f l):=fun H=>
 .func f l l rfl (fun i a c ha hc=>by rw[ha] at hc;cases hc;exact h a (fh ha) H)
def aC(l:List Int):AV:=.sl 1 (l.map (AV.int .i64))
def bd(l:List (List Int)):AV:=.sl 1 (l.map aC)
theorem bw (l:List Int):Dat (aC l):=Dat.sl (fun x hx c hc=>by
 obtain⟨n,_,rfl⟩:=dp.1 hx;simp only[AV.cells,qR] at hc;subst hc;exact .int)
theorem bi (l:List (List Int)):Dat (bd l):=Dat.sl (fun x hx c hc=>by
 obtain⟨n,_,rfl⟩:=dp.1 hx;simp only[aC,AV.cells,qR] at hc;subst hc;exact bw n)
theorem uc{l:List Int}:(aC l).cells=[aC l]:=rfl
theorem ai{H:Hp}:aO H [] []:=aO.nil
theorem aw{H:Hp}{x:AV}{xs ys:List AV}(h:Dat x)(hs:aO H xs ys):aO H (x::xs) (x::ys):=aO.cons (h H) hs
class DatI(x:AV):Prop where
 d:Dat x
instance datI_int{k:IntKind}{n:Int}:DatI (.int k n):=⟨.int⟩
instance datI_bool{b:Bool}:DatI (.bool b):=⟨.bool⟩
instance datI_str{s:ByteArray}:DatI (.str s):=⟨.str⟩
instance datI_esl:DatI .esl:=⟨.esl⟩
instance datI_nilf:DatI .nilf:=⟨.nilf⟩
instance datI_encV{l:List Int}:DatI (aC l):=⟨bw l⟩
instance datI_encVV{l:List (List Int)}:DatI (bd l):=⟨bi l⟩
theorem aD{H:Hp}{x:AV}{xs ys:List AV}[h:DatI x](hs:aO H xs ys):aO H (x::xs) (x::ys):=aw h.d hs
variable{P:Program}{T:Tm}{H:Hp}{nx:Nat}
theorem co{dm:DM}{K:SP}{l:List Op2}{d:Option Nat}{f:Opd}{args:List Opd}{g:FuncId}{caps xs ys:List AV}{r:AV}(hf:ov T f=.func g caps)(ha:args.map (ov T)++caps=xs)
    (hp:Pure P g ys r) (hs:ax H xs ys r) (k:al P dm l (aH T d r) H nx K):al P dm (⟨d,none,.call f args⟩::l) T H nx K:=by
 subst ha;cases hd:dm.isText with
 |false=>exact uZ hd hf (aZ.of_pure hp hs k)
 |true=>
  cases dm with
  |text=>exact lC hf (Fn.of_pure hp hs k)
  |draw=>cases hd
  |fresh m=>cases hd
theorem mR{dm:DM}{K:SP}{l:List Op2}{d:Option Nat}{f:Opd}{args:List Opd}{g:FuncId}{caps xs ys:List AV}{r:AV}(hf:ov T f=.func g caps)(ha:args.map (ov T)++caps=xs)
    (hp:PureF P g ys r) (hs:aO H xs ys) (k:al P dm l (aH T d r) H nx K):al P dm (⟨d,none,.call f args⟩::l) T H nx K:=by
 subst ha;have hc:=hp.callOk hs;cases hd:dm.isText with
 |false=>exact uZ hd hf (aZ.of_callOk hc k)
 |true=>
  cases dm with
  |text=>exact lC hf (Fn.of_callOk hc k)
  |draw=>cases hd
  |fresh m=>cases hd
theorem u9{dm:DM}{K:SP}{l:List Op2}{d:Option Nat}{f:Opd}{args:List Opd}{g:FuncId}{caps xs:List AV}{r:AV}(hf:ov T f=.func g caps)(ha:args.map (ov T)++caps=xs)
    (hp:Pure P g xs r) (hs:ax H xs xs r) (k:al P dm l (aH T d r) H nx K):al P dm (⟨d,none,.call f args⟩::l) T H nx K:=co hf ha hp hs k
theorem au{xs ys:List AV}{r:AV}{H:Hp}(h:aO bA xs ys):ax H xs ys r:=.inl h
theorem ak{xs ys:List AV}{r:AV}{H:Hp}(h:aO H xs ys)(hr:r.sca=true):ax H xs ys r:=.inr ⟨h,hr⟩
theorem rp{α:Type}[Inhabited α]{f:α→AV}{l:List α}{sz:Nat}{k:IntKind}{n:Int}:eH sz (.sl sz (l.map f)) (.int k n)=if 0≤n∧n<l.length then some (.iptr (f (l.getD n.toNat default)).cells 0) else none:=by
 simp only[eH,true_and,dM];split
 ·rename_i h;rw[sr default (by omega)]
 ·rfl
theorem pI{α:Type}{f:α→AV}{l:List α}{sz:Nat}:dG (.sl sz (l.map f))=some (.int .i64 l.length):=by simp[dG]
theorem vB{l:List Int}{k:IntKind}{n:Int}:eH 1 (aC l) (.int k n)=if 0≤n∧n<l.length then some (.iptr [.int .i64 (l.getD n.toNat default)] 0) else none:=rp
theorem uf{l:List (List Int)}{k:IntKind}{n:Int}:eH 1 (bd l) (.int k n)=if 0≤n∧n<l.length then some (.iptr [aC (l.getD n.toNat default)] 0) else none:=rp
theorem ui{l:List Int}:dG (aC l)=some (.int .i64 l.length):=pI
theorem fi{l:List (List Int)}:dG (bd l)=some (.int .i64 l.length):=pI
end Go.Abs
namespace Go.Abs
theorem SA:(∀(T:Tm)(n:Nat),ov T (.t n)=T n)∧(∀(T:Tm)(v:AV),ov T (.c v)=v)∧(∀(T:Tm)(d t:Nat)(v:AV),upd T d v t=if t=d then v else T t)∧(∀(T:Tm)(d:Nat)(v:AV),aH T (some d) v=upd T d v)∧
    (∀(T:Tm)(v:AV),aH T none v=T)∧(∀(x:AV)(l:List AV),T0 (x::l) 0=x)∧(∀(x:AV)(l:List AV)(n:Nat),T0 (x::l) (n+1)=T0 l n)∧(∀n:Nat,T0 [] n=.undef)∧
    (∀(d t:Nat)(v:AV)(l:List (Nat×AV)),tl ((d,v)::l) t=if t=d then v else tl l t)∧(∀t:Nat,tl [] t=.undef)∧
    (∀(T:Tm)(t:Nat)(ts:List Nat)(x:AV)(xs:List AV),gZ T (t::ts) (x::xs)=gZ (upd T t x) ts xs)∧(∀(T:Tm)(xs:List AV),gZ T [] xs=T):=
 ⟨fun _ _=>rfl,fun _ _=>rfl,fun _ _ _ _=>rfl,fun _ _ _=>rfl,fun _ _=>rfl,fun _ _=>rfl,fun _ _ _=>rfl,fun _=>rfl,fun _ _ _ _=>rfl,fun _=>rfl,fun _ _ _ _ _=>rfl,fun _ xs=>by cases xs<;>rfl⟩
theorem SV:(∀(T:Tm)(H:Hp)(x:Opd),bk T H (.mov x)=some (ov T x))∧
    (∀(T:Tm)(H:Hp)(c a b:Opd),bk T H (.pick c a b)=match ov T c with|.bool t=>some (if t=true then ov T a else ov T b)|_=>none)∧
    (∀(T:Tm)(H:Hp)(a:Opd),bk T H (.ld1 a)=rd1 H (ov T a))∧(∀(T:Tm)(H:Hp)(k:Nat)(a:Opd),bk T H (.ldn k a)=(rd H k (ov T a)).map .agg)∧
    (∀(T:Tm)(H:Hp)(op:BinOp)(tb tf:Bool)(x y:Opd),bk T H (.bin op tb tf x y)=bb op tb tf (ov T x) (ov T y))∧
    (∀(T:Tm)(H:Hp)(op:UnOp)(x:Opd),bk T H (.un op x)=aun op (ov T x))∧
    (∀(T:Tm)(H:Hp)(f:FuncId)(caps:List Opd),bk T H (.mkfn f caps)=some (.func f (caps.map (ov T))))∧
    (∀(T:Tm)(H:Hp)(k:Nat)(p:Opd),bk T H (.fa k p)=gQ k (ov T p))∧
    (∀(T:Tm)(H:Hp)(sz:Nat)(x i:Opd),bk T H (.ixaS sz x i)=eH sz (ov T x) (ov T i))∧
    (∀(T:Tm)(H:Hp)(x:Opd)(i:Nat),bk T H (.ext x i)=fv (ov T x) i)∧
    (∀(T:Tm)(H:Hp)(x:Opd),bk T H (.lenS x)=dG (ov T x))∧
    (∀(T:Tm)(H:Hp)(z:List AV)(parts:List (Nat×Nat×Opd)),bk T H (.bld z parts)=(dw z (parts.map fun p=>(p.1,p.2.1,ov T p.2.2))).map .agg)∧
    (∀(T:Tm)(H:Hp)(x:Opd)(l:List Opd),bk T H (.mx x l)=fe kH (ov T x) (l.map (ov T)))∧
    (∀(T:Tm)(H:Hp)(x:Opd)(l:List Opd),bk T H (.mn x l)=fe kD (ov T x) (l.map (ov T)))∧
    (∀(T:Tm)(H:Hp)(k:IntKind)(x:Opd),bk T H (.conv k x)=jX (ov T x) fun n=>some (.int k (k.wrap n)))∧
    (∀(T:Tm)(H:Hp)(sz:Nat)(x:Opd)(lo hi mx:Option Opd),bk T H (.sls sz x lo hi mx)=tg sz (ov T x) (lo.map (ov T)) (hi.map (ov T)) (mx.map (ov T)))∧
    (∀(T:Tm)(H:Hp)(off:Nat)(x:Opd),bk T H (.part1 off x)=di (ov T x) fun cs=>cs[off]?)∧
    (∀(T:Tm)(H:Hp)(op:BinOp)(ks:List TK)(x y:Opd),bk T H (.binS op ks x y)=di (ov T x) fun xs=>di (ov T y) fun ys=>ri op ks xs ys):=
 ⟨fun _ _ _=>rfl,fun _ _ _ _ _=>rfl,fun _ _ _=>rfl,fun _ _ _ _=>rfl,fun _ _ _ _ _ _ _=>rfl,fun _ _ _ _=>rfl,fun _ _ _ _=>rfl,fun _ _ _ _=>rfl,fun _ _ _ _ _=>rfl,fun _ _ _ _=>rfl,fun _ _ _=>rfl,
  fun _ _ _ _=>rfl,fun _ _ _ _=>rfl,fun _ _ _ _=>rfl,fun _ _ _ _=>rfl,fun _ _ _ _ _ _ _=>rfl,fun _ _ _ _=>rfl,fun _ _ _ _ _ _=>rfl⟩
def mN:AV→Option AV
 |.str s=>some (.int .i64 s.size)
 |_=>none
def jT:AV→AV→Option AV
 |.str s,.int _ n=>if 0≤n∧n<s.size then some (.int .u8 (s[n.toNat]?.getD 0).toNat) else none
 |_,_=>none
theorem SV2:(∀(T:Tm)(H:Hp)(n:Nat)(x:Opd)(lo hi:Option Opd),bk T H (.slsA n x lo hi)=sx n (ov T x) (lo.map (ov T)) (hi.map (ov T)) none)∧
    (∀(T:Tm)(H:Hp)(f:FuncId)(l:List Opd),bk T H (.mkbf f l)=some (.bfn f (l.map (ov T))))∧
    (∀(T:Tm)(H:Hp)(x:Opd),bk T H (.lenStr x)=mN (ov T x))∧
    (∀(T:Tm)(H:Hp)(x i:Opd),bk T H (.ixStr x i)=jT (ov T x) (ov T i))∧
    (∀(T:Tm)(H:Hp)(x:Opd)(lo hi:Option Opd),bk T H (.slstr x lo hi)=qy (ov T x) (lo.map (ov T)) (hi.map (ov T)))∧
    (∀(T:Tm)(H:Hp)(off k:Nat)(x:Opd),bk T H (.partn off k x)=di (ov T x) fun cs=>if off+k≤cs.length then some (.agg ((cs.drop off).take k)) else none)∧
    (∀(T:Tm)(H:Hp)(n:Nat),bk T H (.lenC n)=some (.int .i64 n))∧
    (∀(s:ByteArray),mN (.str s)=some (.int .i64 s.size))∧
    (∀(s:ByteArray)(k:IntKind)(n:Int),jT (.str s) (.int k n)=if 0≤n∧n<s.size then some (.int .u8 (s[n.toNat]?.getD 0).toNat) else none):=
 ⟨fun _ _ _ _ _ _=>rfl,fun _ _ _ _=>rfl,fun T H x=>by
  simp only[bk];cases ov T x<;>rfl,fun T H x i=>by
  simp only[bk];cases ov T x<;>cases ov T i<;>rfl,fun _ _ _ _ _=>rfl,fun _ _ _ _ _=>rfl,fun _ _ _=>rfl,fun _=>rfl,fun _ _ _=>rfl⟩
theorem SN:(∀(k:IntKind)(a b:Int)(tb tf:Bool),bb .lss tb tf (.int k a) (.int k b)=some (.bool (decide (a<b))))∧(∀(k:IntKind)(a b:Int)(tb tf:Bool),bb .leq tb tf (.int k a) (.int k b)=some (.bool (decide (a≤b))))∧
    (∀(k:IntKind)(a b:Int)(tb tf:Bool),bb .gtr tb tf (.int k a) (.int k b)=some (.bool (decide (b<a))))∧(∀(k:IntKind)(a b:Int)(tb tf:Bool),bb .geq tb tf (.int k a) (.int k b)=some (.bool (decide (b≤a))))∧
    (∀(k:IntKind)(a b:Int)(tb tf:Bool),bb .eql tb tf (.int k a) (.int k b)=some (.bool (decide (a=b))))∧(∀(k:IntKind)(a b:Int)(tb tf:Bool),bb .neq tb tf (.int k a) (.int k b)=some (.bool (decide (a≠b))))∧
    (∀(k:IntKind)(a b:Int)(tb tf:Bool),bb .add tb tf (.int k a) (.int k b)=some (.int k (k.wrap (a+b))))∧(∀(k:IntKind)(a b:Int)(tb tf:Bool),bb .sub tb tf (.int k a) (.int k b)=some (.int k (k.wrap (a-b))))∧
    (∀(k:IntKind)(a b:Int)(tb tf:Bool),bb .mul tb tf (.int k a) (.int k b)=some (.int k (k.wrap (a*b))))∧
    (∀(a b:Bool)(tf:Bool),bb .eql true tf (.bool a) (.bool b)=some (.bool (a==b)))∧(∀(a b:Bool)(tf:Bool),bb .neq true tf (.bool a) (.bool b)=some (.bool (!(a==b))))∧
    (∀tb:Bool,bb .eql tb true .nilf .nilf=some (.bool true))∧(∀tb:Bool,bb .neq tb true .nilf .nilf=some (.bool false))∧
    (∀(tb:Bool)(f:FuncId)(c:List AV),bb .eql tb true (.func f c) .nilf=some (.bool false))∧(∀(tb:Bool)(f:FuncId)(c:List AV),bb .neq tb true (.func f c) .nilf=some (.bool true))∧
    (∀b:Bool,aun .not (.bool b)=some (.bool (!b)))∧
    (∀(k:IntKind)(a b:Int),kH (.int k a) (.int k b)=some (.int k (max a b)))∧(∀(k:IntKind)(a b:Int),kD (.int k a) (.int k b)=some (.int k (min a b)))∧
    (∀(f:AV→AV→Option AV)(x:AV),fe f x []=some x)∧(∀(f:AV→AV→Option AV)(x y:AV)(l:List AV),fe f x (y::l)=match f x y with|some z=>fe f z l|none=>none)∧
    (∀(k:Nat)(b n off:Nat),gQ k (.ptr b n off)=some (.ptr b n (off+k)))∧(∀(k:Nat)(cs:List AV)(off:Nat),gQ k (.iptr cs off)=some (.iptr cs (off+k)))∧
    (∀(cs:List AV)(off:Nat),rd1 bA (.iptr cs off)=cs[off]?):=
 ⟨fun _ _ _ _ _=>zt,fun _ _ _ _ _=>zm,fun _ _ _ _ _=>yM,fun _ _ _ _ _=>zw,fun _ _ _ _ _=>ze,fun _ _ _ _ _=>yC,fun _ _ _ _ _=>za,fun _ _ _ _ _=>zj,fun _ _ _ _ _=>yQ,
  fun _ _ _=>rfl,fun _ _ _=>rfl,fun _=>rfl,fun _=>rfl,fun _ _ _=>rfl,fun _ _ _=>rfl,fun _=>rfl,
  fun k a b=>by simp only[kH,Int.max_def];split<;>split<;>simp <;>omega,fun k a b=>by simp only[kD,Int.min_def];split<;>split<;>simp <;>omega,fun _ _=>rfl,fun _ _ _ _=>rfl,fun _ _ _ _=>rfl,fun _ _ _=>rfl,fun _ _=>rfl⟩
theorem SL:(∀(a:AV)(l:List AV),(a::l)[0]?=some a)∧(∀(a:AV)(l:List AV)(n:Nat),(a::l)[n+1]?=l[n]?)∧(∀(l:List AV),l.drop 0=l)∧(∀(a:AV)(l:List AV)(n:Nat),(a::l).drop (n+1)=l.drop n)∧(∀n:Nat,([]:List AV).drop n=[])∧
    (∀(l:List AV),l.take 0=[])∧(∀(a:AV)(l:List AV)(n:Nat),(a::l).take (n+1)=a::l.take n)∧(∀n:Nat,([]:List AV).take n=[])∧(∀(l:List AV),[]++l=l)∧(∀(l:List AV),l++[]=l)∧(∀(a:AV)(l m:List AV),(a::l)++m=a::(l++m))∧
    (∀(cs:List AV)(off:Nat)(new:List AV),bv cs off new=cs.take off++new++cs.drop (off+new.length))∧(([]:List AV).length=0)∧(∀(a:AV)(l:List AV),(a::l).length=l.length+1)∧
    (∀(k:IntKind)(n:Int),(AV.int k n).cells=[.int k n])∧(∀b:Bool,(AV.bool b).cells=[.bool b])∧(∀s:ByteArray,(AV.str s).cells=[.str s])∧(∀(k:Nat)(l:List AV),(AV.sl k l).cells=[.sl k l])∧(∀l:List AV,(AV.agg l).cells=l)∧(AV.esl.cells=[.esl])∧(AV.nilf.cells=[.nilf])∧
    (∀(f:FuncId)(c:List AV),(AV.func f c).cells=[.func f c])∧(∀(b n off:Nat),(AV.ptr b n off).cells=[.ptr b n off])∧(∀(c:List AV)(off:Nat),(AV.iptr c off).cells=[.iptr c off])∧(∀(b n sz off len:Nat),(AV.msl b n sz off len).cells=[.msl b n sz off len])∧(∀b:Nat,(AV.yld b).cells=[.yld b])∧(∀b:Nat,(AV.mp b).cells=[.mp b])∧(AV.nilp.cells=[.nilp])∧(∀(f:FuncId)(c:List AV),(AV.bfn f c).cells=[.bfn f c]):=
 ⟨fun _ _=>rfl,fun _ _ _=>rfl,fun _=>rfl,fun _ _ _=>rfl,fun n=>by cases n <;> rfl,fun _=>rfl,fun _ _ _=>rfl,fun n=>by cases n <;> rfl,fun _=>rfl,fun l=>lg l,fun _ _ _=>rfl,fun _ _ _=>rfl,rfl,fun _ _=>rfl,
  fun _ _=>rfl,fun _=>rfl,fun _=>rfl,fun _ _=>rfl,fun _=>rfl,rfl,rfl,fun _ _=>rfl,fun _ _ _=>rfl,fun _ _=>rfl,fun _ _ _ _ _=>rfl,fun _=>rfl,fun _=>rfl,rfl,fun _ _=>rfl⟩
def AV.ones(l:List AV):Bool:=l.all AV.one
theorem SO:(AV.ones []=true)∧(∀(a:AV)(l:List AV),AV.ones (a::l)=(a.one&&AV.ones l))∧(∀(k:IntKind)(n:Int),(AV.int k n).one=true)∧(∀b:Bool,(AV.bool b).one=true)∧(∀s:ByteArray,(AV.str s).one=true)∧(∀(k:Nat)(l:List AV),(AV.sl k l).one=true)∧(AV.esl.one=true)∧(AV.nilf.one=true)∧
    (∀(f:FuncId)(c:List AV),(AV.func f c).one=true)∧(∀(b n off:Nat),(AV.ptr b n off).one=true)∧(∀(c:List AV)(off:Nat),(AV.iptr c off).one=true)∧(∀(b n sz off len:Nat),(AV.msl b n sz off len).one=true)∧(∀b:Nat,(AV.yld b).one=true)∧(∀b:Nat,(AV.mp b).one=true)∧(AV.nilp.one=true)∧(∀l:List AV,l.all AV.one=AV.ones l):=
 ⟨rfl,fun _ _=>by simp[AV.ones],fun _ _=>rfl,fun _=>rfl,fun _=>rfl,fun _ _=>rfl,rfl,rfl,fun _ _=>rfl,fun _ _ _=>rfl,fun _ _=>rfl,fun _ _ _ _ _=>rfl,fun _=>rfl,fun _=>rfl,rfl,fun _=>rfl⟩
variable{P:Program}{T:Tm}{H:Hp}{nx:Nat}
theorem uD{dm:DM}{K:SP}{l:List Op2}{d:Option Nat}{z:AV}{cs:List AV}(hd:dm2 dm T (.alloc z)=true)(hc:z.cells=cs)(ho:AV.ones cs=true)(k:al P dm l (aH T d (.ptr nx cs.length 0)) (am H nx cs) (nx+1) K):al P dm (⟨d,none,.alloc z⟩::l) T H nx K:=by
 subst hc;refine mc rfl hd ?_ k;simp only[gL,oW];rw[if_pos (show z.flat=true from ho)]
theorem BV{dm:DM}{K:SP}{l:List Op2}{d:Option Nat}{x:Opd}{v:AV}{cs:List AV}(hd:dm2 dm T (.box x)=true)(hx:ov T x=v)(hc:v.cells=cs)(ho:AV.ones cs=true)(k:al P dm l (aH T d (.ptr nx cs.length 0)) (am H nx cs) (nx+1) K):al P dm (⟨d,none,.box x⟩::l) T H nx K:=by
 subst hc hx;refine mc rfl hd ?_ k;simp only[gL,oW];rw[if_pos (show(ov T x).flat=true from ho)]
theorem B5{dm:DM}{K:SP}{l:List Op2}{d:Option Nat}{sz:Nat}{p x:Opd}{b n off:Nat}{v:AV}{cs vs:List AV}(hd:dm2 dm T (.st sz p x)=true)(hp:ov T p=.ptr b n off)(hx:ov T x=v)(hb:H b=some cs)(hc:v.cells=vs)(ho:AV.ones vs=true)(hn:cs.length=n)(hl:vs.length=sz)(hf:off+sz≤n)
    (k:al P dm l (aH T d (.tup [])) (am H b (bv cs off vs)) nx K):al P dm (⟨d,none,.st sz p x⟩::l) T H nx K:=by
 subst hc hx;refine mc rfl hd ?_ k;simp only[gL,hp,hb];rw[if_pos ⟨hn,ho,hl,hf⟩]
theorem zK{dm:DM}{K:SP}{l:List Op2}{d:Option Nat}{sz bytes:Nat}{z:List AV}{x y:Opd}{k1 k2:IntKind}{n m:Int}(hd:dm2 dm T (.mks sz bytes z x y)=true)(hx:ov T x=.int k1 n)(hy:ov T y=.int k2 m)(h0:0≤n)(h1:n≤m)(h2:m≤9223372036854775807)(h3:bytes*m≤281474976710656)
    (k:al P dm l (aH T d (.msl nx (m.toNat*sz) sz 0 n.toNat)) (am H nx (bn (.agg z) m.toNat)) (nx+1) K):al P dm (⟨d,none,.mks sz bytes z x y⟩::l) T H nx K:=by
 refine mc rfl hd ?_ k;simp only[gL,hx,hy];rw[if_pos ⟨h0,h1,h2,h3⟩]
theorem zN{dm:DM}{K:SP}{l:List Op2}{d:Option Nat}{sz len:Nat}{z:List AV}{parts:List (Nat×Nat×Opd)}{pv:List (Nat×Nat×AV)}{cs:List AV}(hd:dm2 dm T (.bldS sz len z parts)=true)(hl:len≠0)(hp:parts.map (fun p=>(p.1,p.2.1,ov T p.2.2))=pv)(hc:dw (bn (.agg z) len) pv=some cs)
    (k:al P dm l (aH T d (.msl nx cs.length sz 0 len)) (am H nx cs) (nx+1) K):al P dm (⟨d,none,.bldS sz len z parts⟩::l) T H nx K:=by
 refine mc rfl hd ?_ k;simp only[gL,hl,if_false,hp,hc]
theorem AA{dm:DM}{K:SP}{l:List Op2}{d:Option Nat}{sz:Nat}{z:List AV}(hd:dm2 dm T (.bldS sz 0 z [])=true)(k:al P dm l (aH T d .esl) H nx K):al P dm (⟨d,none,.bldS sz 0 z []⟩::l) T H nx K:=by
 refine mc rfl hd ?_ k;simp[gL]
theorem xA{dm:DM}{K:SP}{l:List Op2}{d:Option Nat}{sz bytes n:Nat}{s x:Opd}{v:AV}{new:List AV}(hd:dm2 dm T (.app sz bytes s x)=true)(hs:ov T s=.esl)(hx:ov T x=v)(hsrc:ee sz H v=some (n,new))(ho:AV.ones new=true)(h1:n*bytes≤140737488355328)(h2:n≤9223372036854775807)
    (k:al P dm l (aH T d (.msl nx (n*sz) sz 0 n)) (am H nx new) (nx+1) K):al P dm (⟨d,none,.app sz bytes s x⟩::l) T H nx K:=by
 subst hx;refine mc rfl hd ?_ k;simp only[gL,AW,hs,hsrc];rw[if_pos (show new.all AV.one=true from ho),if_pos ⟨h1,h2⟩]
theorem Cw{dm:DM}{K:SP}{l:List Op2}{d:Option Nat}{sz bytes n:Nat}{s x:Opd}{v:AV}{new cs:List AV}{b m len:Nat}(hd:dm2 dm T (.app sz bytes s x)=true)(hs:ov T s=.msl b m sz 0 len)(hb:H b=some cs)(hx:ov T x=v)(hsrc:ee sz H v=some (n,new))(ho:AV.ones new=true)(hm:cs.length=m)(hl:m=len*sz)
    (h1:(len+n)*bytes≤140737488355328) (h2:len+n≤9223372036854775807)
    (k:al P dm l (aH T d (.msl b ((len+n)*sz) sz 0 (len+n))) (am H b (cs++new)) nx K):al P dm (⟨d,none,.app sz bytes s x⟩::l) T H nx K:=by
 subst hx;refine mc rfl hd ?_ k;simp only[gL,AW,hs,hsrc,hb];rw[if_pos (show new.all AV.one=true from ho),if_pos ⟨hm,trivial⟩,if_pos ⟨trivial,hl,h1,h2⟩]
theorem p6{sz:Nat}{l:List AV}:ee sz H (.sl sz l)=some (l.length,l.flatMap AV.cells):=by simp[ee]
theorem xm{sz:Nat}:ee sz H .esl=some (0,[]):=rfl
theorem jc{sz b n off len:Nat}{cs:List AV}(h:H b=some cs)(hn:cs.length=n)(hf:off+len*sz≤n):ee sz H (.msl b n sz off len)=some (len,(cs.drop off).take (len*sz)):=by
 simp only[ee];split
 ·rename_i h0;subst h0;simp
 ·simp only[h,hn,true_and,hf,if_true]
theorem SR:(∀(H:Hp)(b n off:Nat),rd1 H (.ptr b n off)=match H b with|some cs=>if cs.length=n then cs[off]? else none|none=>none)∧
    (∀(H:Hp)(k b n off:Nat),rd H k (.ptr b n off)=match H b with|some cs=>if cs.length=n∧off+k≤n then some ((cs.drop off).take k) else none|none=>none)∧
    (∀(H:Hp)(cs:List AV)(off:Nat),rd1 H (.iptr cs off)=cs[off]?)∧(∀(H:Hp)(cs:List AV)(off k:Nat),rd H k (.iptr cs off)=if off+k≤cs.length then some ((cs.drop off).take k) else none)∧
    (∀(l:List AV)(i:Nat),fv (.tup l) i=l[i]?)∧(∀(l:List AV)(f:List AV→Option AV),di (.agg l) f=f l)∧(∀(k:IntKind)(n:Int)(f:Int→Option AV),jX (.int k n) f=f n)∧
    (∀(cs:List AV),dw cs []=some cs)∧
    (∀(cs:List AV)(off sz:Nat)(x:AV)(r:List (Nat×Nat×AV)),dw cs ((off,sz,x)::r)=if AV.ones x.cells=true∧x.cells.length=sz∧off+sz≤cs.length then dw (bv cs off x.cells) r else none)∧
    (∀(b n sz off len:Nat),dG (.msl b n sz off len)=some (.int .i64 len))∧(dG .esl=some (.int .i64 0))∧(∀(sz:Nat)(l:List AV),dG (.sl sz l)=some (.int .i64 l.length))∧
    (∀(z:AV),bn z 0=[])∧(∀(z:AV)(n:Nat),bn z (n+1)=z.cells++bn z n):=
 ⟨fun _ _ _ _=>rfl,fun _ _ _ _ _=>rfl,fun _ _ _=>rfl,fun _ _ _ _=>rfl,fun l i=>by cases l<;>rfl,fun _ _=>rfl,fun _ _ _=>rfl,fun _=>rfl,fun _ _ _ _ _=>rfl,fun _ _ _ _ _=>rfl,rfl,fun _ _=>rfl,fun _=>rfl,fun z n=>by simp[bn,List.replicate_succ]⟩
end Go.Abs
namespace Go.Abs
theorem aY{H:Hp}{a b:Bool}(h:a=b):Snap H (.bool a) (.bool b):=by subst h;exact .bool _
theorem aR{H:Hp}{k:IntKind}{a b:Int}(h:a=b):Snap H (.int k a) (.int k b):=by subst h;exact .int _ _
theorem gP{H:Hp}{l m:List AV}(h:aO H l m):Snap H (.tup l) (.tup m):=.tup l m h.1 h.2
theorem jk{H:Hp}{l m:List AV}(h:aO H l m):Snap H (.agg l) (.agg m):=.agg l m h.1 h.2
theorem ap{H:Hp}{x y:AV}{xs ys:List AV}(h:Snap H x y)(hs:aO H xs ys):aO H (x::xs) (y::ys):=aO.cons h hs
theorem Dat.snap{H:Hp}{x:AV}(h:Dat x):Snap H x x:=h H
theorem bo{P:Program}{b:C2}{T:Tm}{H:Hp}{nx:Nat}{K:CP}{X:Type}(L:X→List (Nat×AV))(I:X→Hp→Nat→Prop)(μ:X→Nat)(x0:X)(h0:I x0 H nx)(hT:agr T (L x0))
    (step:∀x H nx,I x H nx→aG P b (tl (L x)) H nx fun e T H' nx'=>aV e (∃y,μ y<μ x∧I y H' nx'∧agr T (L y)) (K e T H' nx')):a7 (aG P b) T H nx K:=by
 refine zS (X:=X×Hp×Nat) (fun x=>tl (L x.1)) (fun x=>x.2.1) (fun x=>x.2.2) (fun x=>I x.1 x.2.1 x.2.2) (fun x=>μ x.1) ⟨(x0,H,nx),h0,_,Gh.weak (od hT)⟩ (fun x hx=>dC b (step x.1 x.2.1 x.2.2 hx) (fun e T H' nx' h=>?_));cases e with
 |normal=>
  obtain⟨y,h1,h2,h3⟩:=h;exact⟨(y,H',nx'),h2,h1,_,Gh.weak (od h3)⟩
 |exit i=>exact h
 |ret=>exact h
def cK(Hf:Hp)(cs cs':List AV):Prop:=cs'.length=cs.length∧∀(i:Nat)(x x':AV),cs[i]?=some x→cs'[i]?=some x'→x'=x∨Snap Hf x x'
theorem cK.refl(Hf:Hp)(cs:List AV):cK Hf cs cs:=⟨rfl,fun i x x' h1 h2=>.inl (by rw[h1] at h2;cases h2;rfl)⟩
theorem cK.snoc{Hf:Hp}{cs:List AV}{x x':AV}(h:Snap Hf x x'):cK Hf (cs++[x]) (cs++[x']):=by
 refine⟨by simp,fun i y y' h1 h2=>?_⟩;by_cases hi:i<cs.length
 ·rw[eV hi] at h1 h2;rw[h1] at h2;cases h2;exact .inl rfl
 ·rw[fJ (by omega)] at h1 h2;cases hj:i-cs.length with
  |zero=>rw[hj] at h1 h2;simp at h1 h2;subst h1 h2;exact .inr h
  |succ j=>rw[hj] at h1;simp at h1
structure Fz(Hf H H':Hp):Prop where
 sub:∀b cs,Hf b=some cs→H b=some cs
 to:∀b cs',H' b=some cs'→∃cs,H b=some cs∧Hf b=none∧cK Hf cs cs'
def xi(Hf:Hp)(T:Tm):List (Nat×AV)→Prop
 |[]=>True
 |(d,v)::l=>(T d=v∨Snap Hf (T d) v)∧xi Hf T l
theorem uM{Hf:Hp}{T:Tm}:∀{l:List (Nat×AV)},xi Hf T l→∀t,tl l t=.undef∨tl l t=T t∨Snap Hf (T t) (tl l t)
 |[],_,t=>.inl rfl
 |(d,v)::l,h,t=>by
  simp only[tl];split
  ·rename_i e;subst e;rcases h.1 with h1|h1
   ·exact .inr (.inl h1.symm)
   ·exact .inr (.inr h1)
  ·exact uM h.2 t
theorem Fz.gh{Hf H H':Hp}{T:Tm}{l:List (Nat×AV)}{nx:Nat}(h:Fz Hf H H')(ha:xi Hf T l):Gh T H nx (tl l) H' nx Hf:=
 ⟨h.sub,aM _,fun b cs' hb=>by
  obtain⟨cs,h1,h2,h3,h4⟩:=h.to b cs' hb;exact .inl ⟨cs,h1,h2,h3,fun i x x' hx hx'=>(h4 i x x' hx hx').imp id .inl⟩,fun t=>by
  rcases uM ha t with h1|h1|h1
  ·exact .inl h1
  ·exact .inr (.inl h1)
  ·exact .inr (.inr (.inl h1))⟩
def only(b:Nat)(cs:List AV):Hp:=fun x=>if x=b then some cs else none
theorem qP{b:Nat}{cs:List AV}:only b cs b=some cs:=by simp[only]
theorem qX{P:Program}{T:Tm}{H:Hp}{nx:Nat}{K:CP}{l:List Op2}(Hf H':Hp)(L:List (Nat×AV))(hf:Fz Hf H H')(ha:xi Hf T L)(h:al P .text l (tl L) H' nx fun T H nx=>K .normal T H nx):aG P (.ops 0 l) T H nx K:=⟨_,H',nx,Hf,hf.gh ha,h⟩
theorem Fz.one{H:Hp}{b:Nat}{cs:List AV}(hb:H b=some cs):Fz (only b cs) H (dv H b):=
 ⟨fun x c h=>by unfold only at h; split at h <;> cases h; subst_vars; exact hb,fun x c h=>by
  have:=ln h;exact⟨c,this.2,by simp[only,this.1],cK.refl _ _⟩⟩
theorem Fz.all{H:Hp}:Fz H H bA:=⟨fun _ _ h=>h,fun _ _ h=>(by cases h)⟩
theorem Fz.none{H:Hp}:Fz bA H H:=⟨fun _ _ h=>(by cases h),fun b cs h=>⟨cs,h,rfl,cK.refl _ _⟩⟩
theorem pA{α:Type}[DecidableEq α](k:MK)(enc:α→AV)(h:∀a b,jM k (enc a) (enc b)=some (decide (a=b)))(v:α):∀ks:List α,cR k (enc v) (ks.map enc)=some (if v∈ks then some (ks.idxOf v) else none)
 |[]=>rfl
 |x::l=>by
  simp only[fZ,cR,h];by_cases e:v=x
  ·subst e;simp
  ·have e':x≠v:=fun h=>e h.symm;simp only[e,decide_false,pA k enc h v l,jd,fo,false_or];by_cases hm:v∈l
   ·simp only[hm,if_true,jd];simp[List.idxOf_cons,beq_eq_false_iff_ne.2 e']
   ·simp[hm]
theorem vW(k:IntKind)(a b:Int):jM (.one .int) (.int k a) (.int k b)=some (decide (a=b)):=by
 simp only[jM,iv,if_true]
 congr 1
theorem vF(v:Int)(ks:List Int):cR (.one .int) (.int .i64 v) (ks.map (AV.int .i64))=some (if v∈ks then some (ks.idxOf v) else none):=pA _ (AV.int .i64) (vW .i64) v ks
theorem pF{α:Type}{l:List α}{n k:Nat}{d:α}(h:k<n):(l.take n).getD k d=l.getD k d:=by
 simp only[List.getD,fT,if_pos h]
theorem bN{α:Type}[Inhabited α]{l:List α}{k:Nat}(h:k<l.length):l.take (k+1)=l.take k++[l.getD k default]:=by
 rw[List.take_add_one];simp[List.getD,h]
theorem bO{α:Type}[Inhabited α]{l:List α}{k:Nat}(h:k<l.length):l.drop k=l.getD k default::l.drop (k+1):=by
 rw[List.drop_eq_getElem_cons h];simp[List.getD,h]
theorem zE{a a' b:List AV}(h:a=a'):some [AV.omap a b]=some [AV.omap a' b]:=by rw[h]
theorem aj{H:Hp}{b:Nat}{cs:List AV}:am H b cs b=some cs:=if_pos rfl
theorem d6{H:Hp}{f:FuncId}{l m:List AV}(h:aO H l m):Snap H (.func f l) (.func f m):=.func f l m h.1 h.2
theorem dR{H:Hp}{b n off:Nat}{cs cs':List AV}(hb:H b=some cs)(hn:cs.length=n)(h:aO H cs cs'):Snap H (.ptr b n off) (.iptr cs' off):=.ptr b n off cs cs' hb hn (by rw[h.1,hn]) h.2
theorem ez{H:Hp}{cs cs':List AV}{off:Nat}(h:aO H cs cs'):Snap H (.iptr cs off) (.iptr cs' off):=.iptr cs cs' off h.1 h.2
theorem Dat.iptr{cs:List AV}{off:Nat}(h:∀x∈cs,Dat x):Dat (.iptr cs off):=fun H=>.iptr cs cs off rfl (fun i a c ha hc=>by rw[ha] at hc;cases hc;exact h a (fh ha) H)
theorem DatL.nil:∀x∈([]:List AV),Dat x:=by simp
theorem DatL.cons{x:AV}{l:List AV}(h:Dat x)(hl:∀y∈l,Dat y):∀y∈x::l,Dat y:=fun y hy=>(fo.1 hy).elim (fun e=>e▸h) (hl y)
theorem ky{H:Hp}{b n off len:Nat}{cs:List AV}{l:List AV}(hb:H b=some cs)(hn:cs.length=n)(hf:off+len≤n)(hl:l.length=len)(hc:∀y∈l,y.cells=[y])(h:∀(i:Nat)(a c:AV),cs[off+i]?=some a→l[i]?=some c→Snap H a c):Snap H (.msl b n 1 off len) (.sl 1 l):=by
 refine .msl b n 1 off len cs l hb hn (by omega) hl (fun y hy=>by rw[hc y hy];rfl) (fun i j y a c hy hc' ha=>?_);rw[hc y (fh hy)] at hc';cases j with
 |zero=>simp at hc';subst hc';exact h i a y (by simpa using ha) hy
 |succ j=>simp at hc'
theorem cV{H:Hp}{b n len:Nat}{l:List Int}(hb:H b=some (l.map (AV.int .i64)))(hn:n=len)(hl:l.length=len):Snap H (.msl b n 1 0 len) (aC l):=by
 subst hn;refine ky hb (by simp[hl]) (by omega) (by simp[hl]) (fun y hy=>by simp at hy;obtain⟨n,_,rfl⟩:=hy;rfl) (fun i a c ha hc=>?_);rw[bQ] at ha;rw[ha] at hc;cases hc;simp at ha;obtain⟨n,_,rfl⟩:=ha;exact .int _ _
theorem av{H:Hp}:∀{l:List AV},(∀x∈l,Dat x)→aO H l l
 |[],_=>aO.nil
 |x::l,h=>aO.cons (h x (by simp) H) (av (fun y hy=>h y (by simp[hy])))
theorem an{α:Type}[Inhabited α]{l:List α}{k:Nat}(h:k<l.length):l.getD k default∈l:=by
 have:l.getD k default=l[k]:=by simp[List.getD,h]
 rw[this];exact jx h
theorem wz{H:Hp}{l:List Int}:ee 1 H (aC l)=some (l.length,l.map (AV.int .i64)):=by
 unfold aC;rw[p6]
 congr 2
 ·simp
 ·induction l with
  |nil=>rfl
  |cons a l ih=>simp only[fZ,o6,ih];rfl
theorem xN{l:List Int}:AV.ones (l.map (AV.int .i64))=true:=by
 simp[AV.ones,AV.one]
theorem vv{l:List (List Int)}:AV.ones (l.map aC)=true:=by
 simp[AV.ones,aC,AV.one]
theorem tQ{H:Hp}{l:List (List Int)}:ee 1 H (bd l)=some (l.length,l.map aC):=by
 unfold bd;rw[p6]
 congr 2
 ·simp
 ·induction l with
  |nil=>rfl
  |cons a l ih=>simp only[fZ,o6,ih];rfl
theorem jU{l:List Int}:jG (aC l)=some l.length:=by simp[jG,aC]
theorem fx{l:List Int}:(aC l).one=true:=rfl
theorem eD{l:List (List Int)}:(bd l).one=true:=rfl
theorem vP{H:Hp}{b n len:Nat}{l:List AV}(hb:H b=some l)(hn:n=len)(hl:l.length=len)(hc:∀y∈l,y.cells=[y]∧Dat y):Snap H (.msl b n 1 0 len) (.sl 1 l):=by
 subst hn;refine ky hb hl (by omega) hl (fun y hy=>(hc y hy).1) (fun i a c ha hc'=>?_);rw[bQ] at ha;rw[ha] at hc';cases hc';exact(hc a (fh ha)).2 H
theorem vO{H:Hp}{b n len:Nat}{l:List (List Int)}(hb:H b=some (l.map aC))(hn:n=len)(hl:l.length=len):Snap H (.msl b n 1 0 len) (bd l):=
 vP hb hn (by simp[hl]) (fun y hy=>by simp at hy;obtain⟨n,_,rfl⟩:=hy;exact⟨rfl,bw n⟩)
theorem r_0{T:Tm}{H:Hp}{K:AV→Prop}(h:K (.tup [])):bt T H K []:=h
theorem getElem?_map_lt{α:Type}[Inhabited α]{f:α→AV}{l:List α}{k:Nat}(h:k<l.length):(l.map f)[k]?=some (f (l.getD k default)):=by
 simp[List.getD,h]
theorem yg{sz b m off len:Nat}{k:IntKind}{n:Int}:eH sz (.msl b m sz off len) (.int k n)=if 0≤n∧n<len then some (.ptr b m (off+n.toNat*sz)) else none:=by simp[eH]
theorem og{f:Int→AV}{l:List Int}{k:Nat}{x:Int}(h:k<l.length):bv (l.map f) k [f x]=(l.set k x).map f:=by
 simp only[bv,List.map_set,de,dF,bQ];rw[zg,if_pos (by simpa using h)];simp
theorem jq{P:Program}{T:Tm}{H:Hp}{nx:Nat}{K:CP}{g:Opd}{ps:List Nat}{a b:C2}{f:FuncId}{caps:List AV}(y y1:Nat)(hy:nx=y)(hy1:y+1=y1)(hg:ov T g=.func f caps)
    (h:∀ (c0:AV) (cj:AEx→AV),(∀ (args:List AV) (H':Hp) (nx':Nat) (K':AV→Hp→Nat→Prop),H' y=some [c0]→args.length=ps.length →
        aG P a (gZ T ps args) H' nx' (fun e T2 H2 nx2=>aV e (H2 y=some [c0]∧aG P b T2 (dv H2 y) nx2 fun e T3 H3 nx3=>aV e (K' (.bool true) (am H3 y [c0]) nx3) (K' (.bool false) (am H3 y [cj e]) nx3)) False)→
        Yl P y args H' nx' K')→
     Fn P f (.yld y::caps) (am H y [c0]) y1 fun _ H' nx'=>(H' y=some [c0]∧K .normal T (dv H' y) nx')∨ ∃e,e≠.normal∧H' y=some [cj e]∧K e T (dv H' y) nx'):aG P (.rangeF g ps a b) T H nx K:=by
 subst hy hy1;exact yv hg h
theorem jv{H:Hp}{b n len:Nat}{l:List Int}(hb:H b=some (l.map (AV.int .i64)))(hn:n=len)(hl:l.length=len):SnapF H (.msl b n 1 0 len) (aC l):=by
 subst hn;refine .msl b n 1 0 n _ _ hb (by simp[hl]) (by omega) (by simp[hl]) (fun y hy=>by simp at hy;obtain⟨n,_,rfl⟩:=hy;rfl) (fun i j y a c hy hc ha=>?_);rw[jW] at hy;cases hi:l[i]? with
 |none=>rw[hi] at hy;cases hy
 |some q=>
  rw[hi] at hy;cases hy;cases j with
  |zero=>
   simp only[AV.cells,mA,iy] at hc;subst hc;simp[hi] at ha;subst ha;exact .int _ _
  |succ j=>simp[AV.cells] at hc
theorem pu{H:Hp}{l:List Int}(h:l.length=0):SnapF H .esl (aC l):=by
 have:l=[]:=e8.1 h;subst this;exact .eslsl 1
end Go.Abs
namespace Go.Abs
inductive Row(H:Hp)(sz:Nat):AV→List AV→Prop
 |nil:Row H sz .esl []
 |box (b len:Nat) (cs:List AV) (hb:H b=some cs) (hl:cs.length=len*sz):Row H sz (.msl b (len*sz) sz 0 len) cs
def cH:AV→Option Nat
 |.msl b _ _ _ _=>some b
 |_=>none
theorem Row.len{H:Hp}{sz:Nat}{s:AV}{cs:List AV}(h:Row H sz s cs):∃n:Nat,dG s=some (.int .i64 n)∧cs.length=n*sz:=by
 cases h with
 |nil=>exact⟨0,rfl,by simp⟩
 |box b len cs hb hl=>exact⟨len,rfl,hl⟩
theorem Row.lenS{H:Hp}{sz n:Nat}{s:AV}{cs:List AV}(h:Row H sz s cs)(hl:cs.length=n*sz)(hz:0<sz):dG s=some (.int .i64 n):=by
 obtain⟨m,h1,h2⟩:=h.len;have:m=n:=Nat.eq_of_mul_eq_mul_right hz (by omega);subst this;exact h1
theorem Row.same{H H':Hp}{sz:Nat}{s:AV}{cs:List AV}(h:Row H sz s cs)(hs:∀b,cH s=some b→H' b=H b):Row H' sz s cs:=by
 cases h with
 |nil=>exact .nil
 |box b len cs hb hl=>exact .box b len cs ((hs b rfl).trans hb) hl
theorem Row.one{H:Hp}{sz:Nat}{s:AV}{cs:List AV}(h:Row H sz s cs):s.one=true∧s.cells=[s]:=by
 cases h<;>exact⟨rfl,rfl⟩
theorem af{H:Hp}{b x:Nat}{cs:List AV}(h:x≠b):am H b cs x=H x:=if_neg h
theorem dh{H:Hp}{b x:Nat}(h:x≠b):dv H b x=H x:=if_neg h
variable{P:Program}{T:Tm}{H:Hp}{nx:Nat}
theorem pn{dm:DM}{K:SP}{l:List Op2}{d:Option Nat}{sz bytes k:Nat}{s x:Opd}{sv xv:AV}{cs new:List AV}(hd:dm2 dm T (.app sz bytes s x)=true)(hs:ov T s=sv)(hrow:Row H sz sv cs)(hx:ov T x=xv)(hsrc:ee sz H xv=some (k,new))(ho:AV.ones new=true)(hk:new.length=k*sz)
    (hz:0<sz) (h1:(cs.length+k)*bytes≤140737488355328) (h2:cs.length+k≤9223372036854775807)
    (next:∀(sv':AV)(H':Hp)(nx':Nat),Row H' sz sv' (cs++new)→nx≤nx'→nx'≤nx+1→(∀i,i<nx→cH sv≠some i→H' i=H i)→(∀b,cH sv'=some b→cH sv=some b∨b=nx∧nx'=nx+1)→al P dm l (aH T d sv') H' nx' K):
    al P dm (⟨d,none,.app sz bytes s x⟩::l) T H nx K:=by
 cases hrow with
 |nil=>
  refine xA hd hs hx hsrc ho (by simpa using h1) (by simpa using h2) ?_;exact next _ _ _ (.box nx k new aj hk) (Nat.le_succ _) (aM _) (fun i hi _=>af (by omega)) (fun b hb=>by cases hb;exact .inr ⟨rfl,rfl⟩)
 |box b len cs hb hl=>
  have hle:len≤cs.length:=by rw[hl];exact Nat.le_mul_of_pos_right _ hz
  have hb1:(len+k)*bytes≤140737488355328:=fR (iz _ (by omega)) h1;refine Cw hd hs hb hx hsrc ho hl rfl hb1 (by omega) ?_;exact next _ _ _ (.box b (len+k) (cs++new) aj (by rw[p7,hl,hk,fu])) (aM _) (Nat.le_succ _) (fun i hi hne=>af (fun e=>hne (by rw[e];rfl))) (fun b' hb'=>by cases hb';exact .inl rfl)
theorem Row.snap{H:Hp}{sz:Nat}{s:AV}{elems:List AV}(h:Row H sz s (elems.flatMap AV.cells))(hc:∀y∈elems,y.cells.length=sz)(hz:0<sz)(hd:∀y∈elems,∀c∈y.cells,Dat c):Snap H s (.sl sz elems):=by
 obtain⟨f1,f2⟩:=c9 elems hc;generalize he:elems.flatMap AV.cells=cs at h;cases h with
 |nil=>
  have:elems.length*sz=0:=by rw[←f1,he];rfl
  have:elems=[]:=e8.1 (by
   rcases Nat.mul_eq_zero.1 this with h|h
   ·exact h
   ·omega)
  subst this;exact .eslsl sz
 |box b len cs hb hl=>
  have hlen:elems.length=len:=Nat.eq_of_mul_eq_mul_right hz (by rw[←f1,he,hl]);refine .msl b (len*sz) sz 0 len cs elems hb hl (by omega) hlen hc (fun i j y a c hy hc' ha=>?_);have hj:j<sz:=by rw[←hc y (fh hy)];exact(bC.1 hc').1
  have key:∀(l:List AV)(i j:Nat)(y c:AV),(∀z∈l,z.cells.length=sz)→l[i]?=some y→y.cells[j]?=some c→j<sz→(l.flatMap AV.cells)[i*sz+j]?=some c:=by
   intro l
   induction l with
   |nil=>intro i j y c _ h;simp at h
   |cons x l ih=>
    intro i j y c hl hy hc hj;rw[o6];cases i with
    |zero=>
     simp at hy;subst hy;rw[Nat.zero_mul,bQ,eV (by rw[hl x (by simp)];exact hj)];exact hc
    |succ i=>
     rw[fJ (by rw[hl x (by simp),fu];omega),hl x (by simp)];have:=ih i j y c (fun z hz=>hl z (by simp[hz])) (by simpa using hy) hc hj;rw[←this];congr 1;rw[fu];omega
  have:=key elems i j y c hc hy hc' hj;rw[he,←bQ (i*sz)] at this;rw[this] at ha;cases ha;exact hd y (fh hy) a (fh hc') H
theorem oQ{α:Type}{f:α→AV}(h:∀x,(f x).cells=[f x])(l:List α):(l.map f).flatMap AV.cells=l.map f:=by
 induction l with
 |nil=>rfl
 |cons a l ih=>rw[fZ,o6,ih,h];rfl
theorem Row.snapV{H:Hp}{s:AV}{l:List (List Int)}(h:Row H 1 s (l.map aC)):Snap H s (bd l):=by
 refine Row.snap (elems:=l.map aC) (by rw[oQ (fun _=>rfl)];exact h) (fun y hy=>?_) ru (fun y hy c hc=>?_)
 ·simp at hy;obtain⟨n,_,rfl⟩:=hy;rfl
 ·simp at hy;obtain⟨n,_,rfl⟩:=hy;simp only[uc,qR] at hc;subst hc;exact bw n
theorem aQ{K:CP}{x y:C2}(M:SP)(h1:aG P x T H nx fun e T H nx=>aV e (M T H nx) (K e T H nx))(h2:∀T H nx,M T H nx→aG P y T H nx K):aG P (.seq x y) T H nx K:=by
 refine cC (dC x h1 (fun e T H nx h=>?_));cases e with
 |normal=>exact h2 T H nx h
 |exit i=>exact h
 |ret=>exact h
end Go.Abs
namespace Go.Abs
theorem CJ:(∀l:List Int,(aC l).cells=[aC l])∧(∀l:List (List Int),(bd l).cells=[bd l])∧(∀x:Nat,bA x=none)∧
    (∀(α β:Type)(f:α→β)(a:α)(l:List α),(a::l).map f=f a::l.map f)∧(∀(α β:Type)(f:α→β),([]:List α).map f=[])∧(∀(α β:Type)(f:α→β)(a:α),(some a).map f=some (f a))∧(∀(α β:Type)(f:α→β),(none:Option α).map f=none)∧
    (∀n:Nat,0+n=n)∧(∀n:Nat,n+0=n)∧(∀p:Prop,(p∧p)=p)∧(∀p:Prop,(p∧True)=p)∧(∀p:Prop,(True∧p)=p)∧((!true)=false)∧((!false)=true)∧
    (∀(α:Type)(a:α)(l m:List α),(a::l)++m=a::(l++m))∧(∀(α:Type)(l:List α),[]++l=l)∧(∀(α:Type)(l:List α),l++[]=l):=
 ⟨fun _=>rfl,fun _=>rfl,fun _=>rfl,fun _ _ _ _ _=>rfl,fun _ _ _=>rfl,fun _ _ _ _=>rfl,fun _ _ _=>rfl,bQ,o8,and_self,and_true,true_and,rfl,rfl,fun _ _ _ _=>rfl,fun _ _=>rfl,fun _ l=>lg l⟩
theorem zz(p:Prop):(p∧p)=p:=and_self p
theorem bR:(∀(H:Hp)(b x:Nat)(cs:List AV),am H b cs x=if x=b then some cs else H x)∧(∀(H:Hp)(b x:Nat),dv H b x=if x=b then none else H x):=⟨fun _ _ _ _=>rfl,fun _ _ _=>rfl⟩
theorem dL:(∀(H:Hp)(b:Nat)(cs:List AV),am H b cs b=some cs)∧(∀(H:Hp)(b x:Nat)(cs:List AV),x≠b→am H b cs x=H x)∧(∀(H:Hp)(b:Nat),dv H b b=none)∧(∀(H:Hp)(b x:Nat),x≠b→dv H b x=H x)∧(∀a b c:Nat,a+b+c=a+(b+c)):=
 ⟨fun _ _ _=>aj,fun _ _ _ _ h=>af h,fun _ _=>eZ,fun _ _ _ h=>dh h,pi⟩
theorem ZA:((∀ l:List Int,(aC l).cells=[aC l])∧(∀ l:List (List Int),(bd l).cells=[bd l])∧(∀ x:Nat,bA x=none) ∧
    (∀(α β:Type)(f:α→β)(a:α)(l:List α),(a::l).map f=f a::l.map f)∧(∀(α β:Type)(f:α→β),([]:List α).map f=[])∧(∀(α β:Type)(f:α→β)(a:α),(some a).map f=some (f a))∧(∀(α β:Type)(f:α→β),(none:Option α).map f=none)∧
    (∀n:Nat,0+n=n)∧(∀n:Nat,n+0=n)∧(∀p:Prop,(p∧p)=p)∧(∀p:Prop,(p∧True)=p)∧(∀p:Prop,(True∧p)=p)∧((!true)=false)∧((!false)=true)∧
    (∀(α:Type)(a:α)(l m:List α),(a::l)++m=a::(l++m))∧(∀(α:Type)(l:List α),[]++l=l)∧(∀(α:Type)(l:List α),l++[]=l))∧
    ((∀ (T:Tm) (n:Nat),ov T (.t n)=T n)∧(∀ (T:Tm) (v:AV),ov T (.c v)=v)∧(∀ (T:Tm) (d t:Nat) (v:AV),upd T d v t=if t=d then v else T t)∧(∀ (T:Tm) (d:Nat) (v:AV),aH T (some d) v=upd T d v) ∧
    (∀(T:Tm)(v:AV),aH T none v=T)∧(∀(x:AV)(l:List AV),T0 (x::l) 0=x)∧(∀(x:AV)(l:List AV)(n:Nat),T0 (x::l) (n+1)=T0 l n)∧(∀n:Nat,T0 [] n=.undef)∧
    (∀(d t:Nat)(v:AV)(l:List (Nat×AV)),tl ((d,v)::l) t=if t=d then v else tl l t)∧(∀t:Nat,tl [] t=.undef)∧
    (∀(T:Tm)(t:Nat)(ts:List Nat)(x:AV)(xs:List AV),gZ T (t::ts) (x::xs)=gZ (upd T t x) ts xs)∧(∀(T:Tm)(xs:List AV),gZ T [] xs=T))∧
    ((∀ (T:Tm) (H:Hp) (x:Opd),bk T H (.mov x)=some (ov T x)) ∧
    (∀(T:Tm)(H:Hp)(c a b:Opd),bk T H (.pick c a b)=match ov T c with|.bool t=>some (if t=true then ov T a else ov T b)|_=>none)∧
    (∀(T:Tm)(H:Hp)(a:Opd),bk T H (.ld1 a)=rd1 H (ov T a))∧(∀(T:Tm)(H:Hp)(k:Nat)(a:Opd),bk T H (.ldn k a)=(rd H k (ov T a)).map .agg)∧
    (∀(T:Tm)(H:Hp)(op:BinOp)(tb tf:Bool)(x y:Opd),bk T H (.bin op tb tf x y)=bb op tb tf (ov T x) (ov T y))∧
    (∀(T:Tm)(H:Hp)(op:UnOp)(x:Opd),bk T H (.un op x)=aun op (ov T x))∧
    (∀(T:Tm)(H:Hp)(f:FuncId)(caps:List Opd),bk T H (.mkfn f caps)=some (.func f (caps.map (ov T))))∧
    (∀(T:Tm)(H:Hp)(k:Nat)(p:Opd),bk T H (.fa k p)=gQ k (ov T p))∧
    (∀(T:Tm)(H:Hp)(sz:Nat)(x i:Opd),bk T H (.ixaS sz x i)=eH sz (ov T x) (ov T i))∧
    (∀(T:Tm)(H:Hp)(x:Opd)(i:Nat),bk T H (.ext x i)=fv (ov T x) i)∧
    (∀(T:Tm)(H:Hp)(x:Opd),bk T H (.lenS x)=dG (ov T x))∧
    (∀(T:Tm)(H:Hp)(z:List AV)(parts:List (Nat×Nat×Opd)),bk T H (.bld z parts)=(dw z (parts.map fun p=>(p.1,p.2.1,ov T p.2.2))).map .agg)∧
    (∀(T:Tm)(H:Hp)(x:Opd)(l:List Opd),bk T H (.mx x l)=fe kH (ov T x) (l.map (ov T)))∧
    (∀(T:Tm)(H:Hp)(x:Opd)(l:List Opd),bk T H (.mn x l)=fe kD (ov T x) (l.map (ov T)))∧
    (∀(T:Tm)(H:Hp)(k:IntKind)(x:Opd),bk T H (.conv k x)=jX (ov T x) fun n=>some (.int k (k.wrap n)))∧
    (∀(T:Tm)(H:Hp)(sz:Nat)(x:Opd)(lo hi mx:Option Opd),bk T H (.sls sz x lo hi mx)=tg sz (ov T x) (lo.map (ov T)) (hi.map (ov T)) (mx.map (ov T)))∧
    (∀(T:Tm)(H:Hp)(off:Nat)(x:Opd),bk T H (.part1 off x)=di (ov T x) fun cs=>cs[off]?)∧
    (∀(T:Tm)(H:Hp)(op:BinOp)(ks:List TK)(x y:Opd),bk T H (.binS op ks x y)=di (ov T x) fun xs=>di (ov T y) fun ys=>ri op ks xs ys))∧
    ((∀ (T:Tm) (H:Hp) (n:Nat) (x:Opd) (lo hi:Option Opd),bk T H (.slsA n x lo hi)=sx n (ov T x) (lo.map (ov T)) (hi.map (ov T)) none) ∧
    (∀(T:Tm)(H:Hp)(f:FuncId)(l:List Opd),bk T H (.mkbf f l)=some (.bfn f (l.map (ov T))))∧
    (∀(T:Tm)(H:Hp)(x:Opd),bk T H (.lenStr x)=mN (ov T x))∧
    (∀(T:Tm)(H:Hp)(x i:Opd),bk T H (.ixStr x i)=jT (ov T x) (ov T i))∧
    (∀(T:Tm)(H:Hp)(x:Opd)(lo hi:Option Opd),bk T H (.slstr x lo hi)=qy (ov T x) (lo.map (ov T)) (hi.map (ov T)))∧
    (∀(T:Tm)(H:Hp)(off k:Nat)(x:Opd),bk T H (.partn off k x)=di (ov T x) fun cs=>if off+k≤cs.length then some (.agg ((cs.drop off).take k)) else none)∧
    (∀(T:Tm)(H:Hp)(n:Nat),bk T H (.lenC n)=some (.int .i64 n))∧
    (∀(s:ByteArray),mN (.str s)=some (.int .i64 s.size))∧
    (∀(s:ByteArray)(k:IntKind)(n:Int),jT (.str s) (.int k n)=if 0≤n∧n<s.size then some (.int .u8 (s[n.toNat]?.getD 0).toNat) else none))∧
    ((∀ (k:IntKind) (a b:Int) (tb tf:Bool),bb .lss tb tf (.int k a) (.int k b)=some (.bool (decide (a < b))))∧(∀ (k:IntKind) (a b:Int) (tb tf:Bool),bb .leq tb tf (.int k a) (.int k b)=some (.bool (decide (a ≤ b)))) ∧
    (∀(k:IntKind)(a b:Int)(tb tf:Bool),bb .gtr tb tf (.int k a) (.int k b)=some (.bool (decide (b<a))))∧(∀(k:IntKind)(a b:Int)(tb tf:Bool),bb .geq tb tf (.int k a) (.int k b)=some (.bool (decide (b≤a))))∧
    (∀(k:IntKind)(a b:Int)(tb tf:Bool),bb .eql tb tf (.int k a) (.int k b)=some (.bool (decide (a=b))))∧(∀(k:IntKind)(a b:Int)(tb tf:Bool),bb .neq tb tf (.int k a) (.int k b)=some (.bool (decide (a≠b))))∧
    (∀(k:IntKind)(a b:Int)(tb tf:Bool),bb .add tb tf (.int k a) (.int k b)=some (.int k (k.wrap (a+b))))∧(∀(k:IntKind)(a b:Int)(tb tf:Bool),bb .sub tb tf (.int k a) (.int k b)=some (.int k (k.wrap (a-b))))∧
    (∀(k:IntKind)(a b:Int)(tb tf:Bool),bb .mul tb tf (.int k a) (.int k b)=some (.int k (k.wrap (a*b))))∧
    (∀(a b:Bool)(tf:Bool),bb .eql true tf (.bool a) (.bool b)=some (.bool (a==b)))∧(∀(a b:Bool)(tf:Bool),bb .neq true tf (.bool a) (.bool b)=some (.bool (!(a==b))))∧
    (∀tb:Bool,bb .eql tb true .nilf .nilf=some (.bool true))∧(∀tb:Bool,bb .neq tb true .nilf .nilf=some (.bool false))∧
    (∀(tb:Bool)(f:FuncId)(c:List AV),bb .eql tb true (.func f c) .nilf=some (.bool false))∧(∀(tb:Bool)(f:FuncId)(c:List AV),bb .neq tb true (.func f c) .nilf=some (.bool true))∧
    (∀b:Bool,aun .not (.bool b)=some (.bool (!b)))∧
    (∀(k:IntKind)(a b:Int),kH (.int k a) (.int k b)=some (.int k (max a b)))∧(∀(k:IntKind)(a b:Int),kD (.int k a) (.int k b)=some (.int k (min a b)))∧
    (∀(f:AV→AV→Option AV)(x:AV),fe f x []=some x)∧(∀(f:AV→AV→Option AV)(x y:AV)(l:List AV),fe f x (y::l)=match f x y with|some z=>fe f z l|none=>none)∧
    (∀(k:Nat)(b n off:Nat),gQ k (.ptr b n off)=some (.ptr b n (off+k)))∧(∀(k:Nat)(cs:List AV)(off:Nat),gQ k (.iptr cs off)=some (.iptr cs (off+k)))∧
    (∀(cs:List AV)(off:Nat),rd1 bA (.iptr cs off)=cs[off]?))∧
    ((∀ (H:Hp) (b n off:Nat),rd1 H (.ptr b n off)=match H b with | some cs=>if cs.length=n then cs[off]? else none | none=>none) ∧
    (∀(H:Hp)(k b n off:Nat),rd H k (.ptr b n off)=match H b with|some cs=>if cs.length=n∧off+k≤n then some ((cs.drop off).take k) else none|none=>none)∧
    (∀(H:Hp)(cs:List AV)(off:Nat),rd1 H (.iptr cs off)=cs[off]?)∧(∀(H:Hp)(cs:List AV)(off k:Nat),rd H k (.iptr cs off)=if off+k≤cs.length then some ((cs.drop off).take k) else none)∧
    (∀(l:List AV)(i:Nat),fv (.tup l) i=l[i]?)∧(∀(l:List AV)(f:List AV→Option AV),di (.agg l) f=f l)∧(∀(k:IntKind)(n:Int)(f:Int→Option AV),jX (.int k n) f=f n)∧
    (∀(cs:List AV),dw cs []=some cs)∧
    (∀(cs:List AV)(off sz:Nat)(x:AV)(r:List (Nat×Nat×AV)),dw cs ((off,sz,x)::r)=if AV.ones x.cells=true∧x.cells.length=sz∧off+sz≤cs.length then dw (bv cs off x.cells) r else none)∧
    (∀(b n sz off len:Nat),dG (.msl b n sz off len)=some (.int .i64 len))∧(dG .esl=some (.int .i64 0))∧(∀(sz:Nat)(l:List AV),dG (.sl sz l)=some (.int .i64 l.length))∧
    (∀(z:AV),bn z 0=[])∧(∀(z:AV)(n:Nat),bn z (n+1)=z.cells++bn z n))∧
    ((∀ (a:AV) (l:List AV),(a :: l)[0]?=some a)∧(∀ (a:AV) (l:List AV) (n:Nat),(a :: l)[n + 1]?=l[n]?)∧(∀ (l:List AV),l.drop 0=l)∧(∀ (a:AV) (l:List AV) (n:Nat),(a :: l).drop (n + 1)=l.drop n)∧(∀ n:Nat,([]:List AV).drop n=[]) ∧
    (∀(l:List AV),l.take 0=[])∧(∀(a:AV)(l:List AV)(n:Nat),(a::l).take (n+1)=a::l.take n)∧(∀n:Nat,([]:List AV).take n=[])∧(∀(l:List AV),[]++l=l)∧(∀(l:List AV),l++[]=l)∧(∀(a:AV)(l m:List AV),(a::l)++m=a::(l++m))∧
    (∀(cs:List AV)(off:Nat)(new:List AV),bv cs off new=cs.take off++new++cs.drop (off+new.length))∧(([]:List AV).length=0)∧(∀(a:AV)(l:List AV),(a::l).length=l.length+1)∧
    (∀(k:IntKind)(n:Int),(AV.int k n).cells=[.int k n])∧(∀b:Bool,(AV.bool b).cells=[.bool b])∧(∀s:ByteArray,(AV.str s).cells=[.str s])∧(∀(k:Nat)(l:List AV),(AV.sl k l).cells=[.sl k l])∧(∀l:List AV,(AV.agg l).cells=l)∧(AV.esl.cells=[.esl])∧(AV.nilf.cells=[.nilf])∧
    (∀(f:FuncId)(c:List AV),(AV.func f c).cells=[.func f c])∧(∀(b n off:Nat),(AV.ptr b n off).cells=[.ptr b n off])∧(∀(c:List AV)(off:Nat),(AV.iptr c off).cells=[.iptr c off])∧(∀(b n sz off len:Nat),(AV.msl b n sz off len).cells=[.msl b n sz off len])∧(∀b:Nat,(AV.yld b).cells=[.yld b])∧(∀b:Nat,(AV.mp b).cells=[.mp b])∧(AV.nilp.cells=[.nilp])∧(∀(f:FuncId)(c:List AV),(AV.bfn f c).cells=[.bfn f c]))∧
    ((∀(b:Bool)(x y:AV),(match (AV.bool b:AV) with|.bool t=>some (if t=true then x else y)|_=>none)=some (if b=true then x else y))):=
 ⟨CJ,SA,SV,SV2,SN,SR,SL,fun _ _ _=>rfl⟩
theorem ZV:((AV.ones []=true)∧(∀ (a:AV) (l:List AV),AV.ones (a :: l)=(a.one && AV.ones l))∧(∀ (k:IntKind) (n:Int),(AV.int k n).one=true)∧(∀ b:Bool,(AV.bool b).one=true)∧(∀ s:ByteArray,(AV.str s).one=true)∧(∀ (k:Nat) (l:List AV),(AV.sl k l).one=true)∧(AV.esl.one=true)∧(AV.nilf.one=true) ∧
    (∀(f:FuncId)(c:List AV),(AV.func f c).one=true)∧(∀(b n off:Nat),(AV.ptr b n off).one=true)∧(∀(c:List AV)(off:Nat),(AV.iptr c off).one=true)∧(∀(b n sz off len:Nat),(AV.msl b n sz off len).one=true)∧(∀b:Nat,(AV.yld b).one=true)∧(∀b:Nat,(AV.mp b).one=true)∧(AV.nilp.one=true)∧(∀l:List AV,l.all AV.one=AV.ones l))∧(∀l:List Int,(aC l).one=true)∧(∀l:List (List Int),(bd l).one=true)∧(∀b:Bool,(b&&b)=b)∧((false=true)=False)∧(∀a:Int,-9223372036854775808≤a→a≤9223372036854775807→IntKind.wrap .i64 a=a)∧
    (∀(l:List Int)(k:IntKind)(n:Int),eH 1 (aC l) (.int k n)=if 0≤n∧n<l.length then some (.iptr [.int .i64 (l.getD n.toNat default)] 0) else none)∧(∀(l:List (List Int))(k:IntKind)(n:Int),eH 1 (bd l) (.int k n)=if 0≤n∧n<l.length then some (.iptr [aC (l.getD n.toNat default)] 0) else none)∧
    (∀l:List Int,dG (aC l)=some (.int .i64 l.length))∧(∀l:List (List Int),dG (bd l)=some (.int .i64 l.length))∧(∀n:Nat,(n:Int).toNat=n)∧(∀(α β:Type)(f:α→β)(l:List α),(l.map f).length=l.length)∧
    (∀(sz b m off len:Nat)(k:IntKind)(n:Int),eH sz (.msl b m sz off len) (.int k n)=if 0≤n∧n<len then some (.ptr b m (off+n.toNat*sz)) else none)∧(∀(α:Type)(_:Inhabited α)(f:α→AV)(l:List α)(k:Nat),k<l.length→(l.map f)[k]?=some (f (l.getD k default)))∧(∀n:Nat,n*1=n):=
 ⟨SO,fun _=>rfl,fun _=>rfl,Bool.and_self,cI,fun _=>j5,fun _ _ _=>vB,fun _ _ _=>uf,fun _=>ui,fun _=>fi,bD,fun _ _ _ _=>dM _,fun _ _ _ _ _ _ _=>yg,fun _ _ _ _ _ h=>getElem?_map_lt h,Nat.mul_one⟩
theorem ZG:((∀ (T:Tm) (n:Nat),ov T (.t n)=T n)∧(∀ (T:Tm) (v:AV),ov T (.c v)=v)∧(∀ (T:Tm) (d t:Nat) (v:AV),upd T d v t=if t=d then v else T t)∧(∀ (T:Tm) (d:Nat) (v:AV),aH T (some d) v=upd T d v) ∧
    (∀(T:Tm)(v:AV),aH T none v=T)∧(∀(x:AV)(l:List AV),T0 (x::l) 0=x)∧(∀(x:AV)(l:List AV)(n:Nat),T0 (x::l) (n+1)=T0 l n)∧(∀n:Nat,T0 [] n=.undef)∧
    (∀(d t:Nat)(v:AV)(l:List (Nat×AV)),tl ((d,v)::l) t=if t=d then v else tl l t)∧(∀t:Nat,tl [] t=.undef)∧
    (∀(T:Tm)(t:Nat)(ts:List Nat)(x:AV)(xs:List AV),gZ T (t::ts) (x::xs)=gZ (upd T t x) ts xs)∧(∀(T:Tm)(xs:List AV),gZ T [] xs=T))∧(∀a:Int,-9223372036854775808≤a→a≤9223372036854775807→IntKind.wrap .i64 a=a)∧(∀a b:Nat,((a+b:Nat):Int)=(a:Int)+(b:Int))∧(((1:Nat):Int)=1)∧(((0:Nat):Int)=0)∧(∀p:Prop,(p∧True)=p)∧(∀p:Prop,(p∧p)=p):=
 ⟨SA,fun _=>j5,Int.natCast_add,rfl,rfl,and_true,and_self⟩
end Go.Abs
namespace Go.Abs
def ug{α:Type}(sz:Nat)(f:α→AV)(l:List α):AV:=.sl sz (l.map f)
section
variable{α:Type}{sz:Nat}{f:α→AV}{l:List α}
end
end Go.Abs
namespace Go.Abs
theorem e9{a:Int}(h1:0≤a)(h2:a<18446744073709551616):IntKind.wrap .u64 a=a:=by
 simp only[IntKind.wrap,IntKind.bits,IntKind.signed];simp;omega
theorem ol{a:Int}:IntKind.wrap .u8 a=a%256:=by
 simp only[IntKind.wrap,IntKind.bits,IntKind.signed];simp
theorem uA{k:IntKind}{a b:Nat}{tb tf:Bool}{k':IntKind}(hb:b≤k.bits):bb .shr tb tf (.int k a) (.int k' b)=some (.int k ((a/2^b:Nat):Int)):=by
 have h:¬((b:Int)<0):=by omega
 simp only[bb,lh,h,if_false,or_true,if_true,bD,Nat.min_eq_left hb]
 congr 2
 rw[Int.fdiv_eq_ediv_of_nonneg _ (Int.le_of_lt (Int.pow_pos (by omega)))];simp
theorem yU{k:IntKind}{a b:Nat}{tb tf:Bool}{k':IntKind}(hb:b≤k.bits)(h:a*2^b<2^(k.bits-1)):bb .shl tb tf (.int k a) (.int k' b)=some (.int k ((a*2^b:Nat):Int)):=by
 have h0:¬((b:Int)<0):=by omega
 simp only[bb,lh,h0,if_false,true_or,if_true,bD,Nat.min_eq_left hb]
 congr 2
 have e:(a:Int)*2^b=((a*2^b:Nat):Int):=by simp
 rw[e];generalize a*2^b=c at h;cases k<;>(simp only[IntKind.bits,IntKind.wrap,IntKind.signed] at h ⊢;simp at h ⊢;omega)
theorem gd{a b:Int}{tb tf:Bool}(ha:0≤a)(h2:a≤9223372036854775807)(hb:0<b):bb .quo tb tf (.int .i64 a) (.int .i64 b)=some (.int .i64 (a/b)):=by
 show(if (IntKind.i64=IntKind.i64) then ea .quo .i64 a b else none)=_;rw[if_pos rfl];have h3:0≤a/b:=Int.ediv_nonneg ha (by omega);have h4:a/b≤a:=Int.ediv_le_self _ ha;simp only[ea,if_neg (show ¬b=0 by omega),Int.tdiv_eq_ediv_of_nonneg ha];rw[j5 (by omega) (by omega)]
theorem yh{P:Program}{T:Tm}{H:Hp}{nx:Nat}{K:CP}{l:List Op2}{C:List (Nat×Nat)}(Hf H':Hp)(L:List (Nat×AV))(hf:Fz Hf H H')(ha:xi Hf T L)(h:al P .draw l (tl L) H' nx fun T H nx=>K .normal T H nx):aG P (.mixS 1 l C) T H nx K:=.inl ⟨by decide,_,H',nx,Hf,hf.gh ha,h⟩
theorem aJ{P:Program}{T:Tm}{H:Hp}{nx:Nat}{K:SP}{l:List Op2}{d:Option Nat}{f:Opd}{args:List Opd}{g:FuncId}{caps xs:List AV}{R:AV→Hp→Nat→Prop}(hf:ov T f=.func g caps)(ha:args.map (ov T)++caps=xs)(hc:Fn P g xs H nx R)
    (k:∀r H' nx',R r H' nx'→al P .text l (aH T d r) H' nx' K):al P .text (⟨d,none,.call f args⟩::l) T H nx K:=by
 subst ha;exact lC hf (Fn.mono hc k)
def Bz(l:List UInt8):AV:=.str ⟨l.toArray⟩
theorem xW(l:List UInt8):Dat (Bz l):=.str
instance datI_encS{l:List UInt8}:DatI (Bz l):=⟨xW l⟩
end Go.Abs
namespace Go.Abs
open Go.RowKit
variable{P:Program}{T:Tm}{H:Hp}{nx:Nat}
theorem aI{a b:Prop}(x:a)(y:b):a∧b:=⟨x,y⟩
theorem ev0{α:Type}{a b:α}(h:a=b:=by(try simp only[bR,ZA,Nat.reduceEqDiff,↓reduceIte,Nat.reduceAdd,Nat.reduceLeDiff]);(try with_reducible rfl);first|done|fail):a=b:=h
theorem evZ{α:Type}{a b:α}(h:a=b:=by(try simp only[bR,ZA,Nat.reduceEqDiff,↓reduceIte,Nat.reduceAdd,Nat.reduceLeDiff,zz]);(try with_reducible rfl);first|done|fail):a=b:=h
theorem evY{α:Type}{a b:α}(h:a=b:=by(try simp (disch:=omega) only[dL,ZA,Nat.reduceEqDiff,↓reduceIte,Nat.reduceAdd,Nat.reduceLeDiff,zz]);(try with_reducible rfl);first|done|fail):a=b:=h
theorem ag0{T:Tm}{l:List (Nat×AV)}(h:agr T l:=by simp (disch:=omega) only[agr,ZG,Nat.reduceEqDiff,↓reduceIte];first|done|fail):agr T l:=h
theorem agZ{T:Tm}{l:List (Nat×AV)}(h:agr T l:=by simp (disch:=omega) only[agr,ZG,Nat.reduceEqDiff,↓reduceIte,zz];first|done|fail):agr T l:=h
theorem vZ{dm:DM}{K:SP}{l:List Op2}{d:Option Nat}{i:Ins}{r:AV}(k:al P dm l (aH T d r) H nx K)(hi:ic i=.val:=by rfl)(hd:dm2 dm T i=true:=by rfl)(h:bk T H i=some r:=by(try simp (disch:=omega) only[bR,ZA,Nat.reduceEqDiff,↓reduceIte,Nat.reduceAdd,Nat.reduceLeDiff,ZV,reduceCtorEq,zz]);first|with_reducible rfl|(apply xF;(focus omega);with_reducible rfl)):al P dm (⟨d,none,i⟩::l) T H nx K:=gJ hi hd h k
theorem cZ{dm:DM}{K:SP}{l:List Op2}{d:Option Nat}{f:Opd}{args:List Opd}{g:FuncId}{caps xs:List AV}{r:AV}(k:al P dm l (aH T d r) H nx K)(hf:ov T f=.func g caps:=by(try simp only[bR,ZA,Nat.reduceEqDiff,↓reduceIte,Nat.reduceAdd,Nat.reduceLeDiff,zz]);(try with_reducible rfl);first|done|fail)(ha:args.map (ov T)++caps=xs:=by(try simp only[bR,ZA,Nat.reduceEqDiff,↓reduceIte,Nat.reduceAdd,Nat.reduceLeDiff,zz]);(try with_reducible rfl);first|done|fail)(hp:Pure P g xs r)(hs:ax H xs xs r:=by(first|refine ak ?_ rfl|apply au);(repeat' (first|exact ai|apply aD|(apply aw;(focus with_reducible assumption))));first|done|fail):al P dm (⟨d,none,.call f args⟩::l) T H nx K:=u9 hf ha hp hs k
theorem alZ{dm:DM}{K:SP}{l:List Op2}{d:Option Nat}{z:AV}{cs:List AV}(k:al P dm l (aH T d (.ptr nx cs.length 0)) (am H nx cs) (nx+1) K)(hd:dm2 dm T (.alloc z)=true:=by rfl)(hc:z.cells=cs:=by(try simp only[bR,ZA,Nat.reduceEqDiff,↓reduceIte,Nat.reduceAdd,Nat.reduceLeDiff,zz]);(try with_reducible rfl);first|done|fail)(ho:AV.ones cs=true:=by simp only[SO,Bool.and_self,fx,eD,zz];first|done|fail):al P dm (⟨d,none,.alloc z⟩::l) T H nx K:=uD hd hc ho k
theorem bxZ{dm:DM}{K:SP}{l:List Op2}{d:Option Nat}{x:Opd}{v:AV}{cs:List AV}(k:al P dm l (aH T d (.ptr nx cs.length 0)) (am H nx cs) (nx+1) K)(hd:dm2 dm T (.box x)=true:=by rfl)(hx:ov T x=v:=by(try simp only[bR,ZA,Nat.reduceEqDiff,↓reduceIte,Nat.reduceAdd,Nat.reduceLeDiff,zz]);(try with_reducible rfl);first|done|fail)(hc:v.cells=cs:=by(try simp only[bR,ZA,Nat.reduceEqDiff,↓reduceIte,Nat.reduceAdd,Nat.reduceLeDiff,zz]);(try with_reducible rfl);first|done|fail)(ho:AV.ones cs=true:=by simp only[SO,Bool.and_self,fx,eD,zz];first|done|fail):al P dm (⟨d,none,.box x⟩::l) T H nx K:=BV hd hx hc ho k
theorem stZ{dm:DM}{K:SP}{l:List Op2}{d:Option Nat}{sz:Nat}{p x:Opd}{b n off:Nat}{v:AV}{cs vs:List AV}(k:al P dm l (aH T d (.tup [])) (am H b (bv cs off vs)) nx K)(hd:dm2 dm T (.st sz p x)=true:=by rfl)(hp:ov T p=.ptr b n off:=by(try simp only[bR,ZA,Nat.reduceEqDiff,↓reduceIte,Nat.reduceAdd,Nat.reduceLeDiff,zz]);(try with_reducible rfl);first|done|fail)(hx:ov T x=v:=by(try simp only[bR,ZA,Nat.reduceEqDiff,↓reduceIte,Nat.reduceAdd,Nat.reduceLeDiff,zz]);(try with_reducible rfl);first|done|fail)(hb:H b=some cs:=by(try simp only[bR,ZA,Nat.reduceEqDiff,↓reduceIte,Nat.reduceAdd,Nat.reduceLeDiff,zz]);(try with_reducible rfl);first|done|fail)(hc:v.cells=vs:=by(try simp only[bR,ZA,Nat.reduceEqDiff,↓reduceIte,Nat.reduceAdd,Nat.reduceLeDiff,zz]);(try with_reducible rfl);first|done|fail)(ho:AV.ones vs=true:=by simp only[SO,Bool.and_self,fx,eD,zz];first|done|fail)(hn:cs.length=n:=by(try simp only[SL,Nat.reduceAdd,Nat.reduceMul,dM]);first|done|omega)(hl:vs.length=sz:=by(try simp only[SL,Nat.reduceAdd,Nat.reduceMul,dM]);first|done|omega)(hf:off+sz≤n:=by(try simp only[SL,Nat.reduceAdd,Nat.reduceMul,dM]);first|done|omega):al P dm (⟨d,none,.st sz p x⟩::l) T H nx K:=B5 hd hp hx hb hc ho hn hl hf k
theorem blZ{dm:DM}{K:SP}{l:List Op2}{d:Option Nat}{sz len:Nat}{z:List AV}{parts:List (Nat×Nat×Opd)}{pv:List (Nat×Nat×AV)}{cs:List AV}(k:al P dm l (aH T d (.msl nx cs.length sz 0 len)) (am H nx cs) (nx+1) K)(hd:dm2 dm T (.bldS sz len z parts)=true:=by rfl)(hl:len≠0:=by exact Nat.succ_ne_zero _)(hp:parts.map (fun p=>(p.1,p.2.1,ov T p.2.2))=pv:=by(try simp only[bR,ZA,Nat.reduceEqDiff,↓reduceIte,Nat.reduceAdd,Nat.reduceLeDiff,zz]);(try with_reducible rfl);first|done|fail)(hc:dw (bn (.agg z) len) pv=some cs:=by(try simp only[bR,ZA,Nat.reduceEqDiff,↓reduceIte,Nat.reduceAdd,Nat.reduceLeDiff,SO,Bool.and_self,fx,eD,zz]);(try with_reducible rfl);first|done|fail):al P dm (⟨d,none,.bldS sz len z parts⟩::l) T H nx K:=zN hd hl hp hc k
theorem b0Z{dm:DM}{K:SP}{l:List Op2}{d:Option Nat}{sz:Nat}{z:List AV}(k:al P dm l (aH T d .esl) H nx K)(hd:dm2 dm T (.bldS sz 0 z [])=true:=by rfl):al P dm (⟨d,none,.bldS sz 0 z []⟩::l) T H nx K:=AA hd k
theorem a0Z{dm:DM}{K:SP}{l:List Op2}{d:Option Nat}{sz bytes n:Nat}{s x:Opd}{v:AV}{new:List AV}(k:al P dm l (aH T d (.msl nx (n*sz) sz 0 n)) (am H nx new) (nx+1) K)(hd:dm2 dm T (.app sz bytes s x)=true:=by rfl)(hs:ov T s=.esl:=by(try simp only[bR,ZA,Nat.reduceEqDiff,↓reduceIte,Nat.reduceAdd,Nat.reduceLeDiff,zz]);(try with_reducible rfl);first|done|fail)(hx:ov T x=v:=by(try simp only[bR,ZA,Nat.reduceEqDiff,↓reduceIte,Nat.reduceAdd,Nat.reduceLeDiff,zz]);(try with_reducible rfl);first|done|fail)(hsrc:ee sz H v=some (n,new):=by first|exact wz|exact tQ|exact xm|(apply jc;(focus ((try simp only[bR,ZA,Nat.reduceEqDiff,↓reduceIte,Nat.reduceAdd,Nat.reduceLeDiff,zz]);(try with_reducible rfl);first|done|fail));(iterate 2 (focus ((try simp only[SL,Nat.reduceAdd,Nat.reduceMul,dM]);first|done|omega))))|exact p6)(ho:AV.ones new=true:=by first|exact xN|exact vv|(simp only[SO,Bool.and_self,fx,eD,zz];first|done|fail))(h1:n*bytes≤140737488355328:=by(try simp only[SL,Nat.reduceAdd,Nat.reduceMul,dM]);first|done|omega)(h2:n≤9223372036854775807:=by(try simp only[SL,Nat.reduceAdd,Nat.reduceMul,dM]);first|done|omega):al P dm (⟨d,none,.app sz bytes s x⟩::l) T H nx K:=xA hd hs hx hsrc ho h1 h2 k
theorem gTZ{dm:DM}{K:SP}{l:List Op2}{d:Option Nat}{i:Ins}{t:Nat}{w:Bool}(k:al P dm (⟨d,none,i⟩::l) T H nx K)(h:T t=.bool w:=by simp only[bR,ZA,Nat.reduceEqDiff,↓reduceIte,Nat.reduceAdd,Nat.reduceLeDiff,zz];first|done|fail):al P dm (⟨d,some (t,w),i⟩::l) T H nx K:=AM h k
theorem gFZ{dm:DM}{K:SP}{l:List Op2}{d:Option Nat}{i:Ins}{t:Nat}{w:Bool}(k:al P dm l (aH T d (.tup [])) H nx K)(h:T t=.bool (!w)∨T t=.tup []:=by simp only[bR,ZA,Nat.reduceEqDiff,↓reduceIte,Nat.reduceAdd,Nat.reduceLeDiff,or_true,true_or,zz];first|done|fail):al P dm (⟨d,some (t,w),i⟩::l) T H nx K:=A6 h k
theorem cTZ{K:CP}{c:Opd}{x y:C2}(h1:aG P x T H nx K)(hc:ov T c=.bool true:=by simp only[bR,ZA,Nat.reduceEqDiff,↓reduceIte,Nat.reduceAdd,Nat.reduceLeDiff,zz];first|done|fail):aG P (.cond c x y) T H nx K:=uN hc h1
theorem cFZ{K:CP}{c:Opd}{x y:C2}(h2:aG P y T H nx K)(hc:ov T c=.bool false:=by simp only[bR,ZA,Nat.reduceEqDiff,↓reduceIte,Nat.reduceAdd,Nat.reduceLeDiff,zz];first|done|fail):aG P (.cond c x y) T H nx K:=va hc h2
theorem r1Z{K:AV→Prop}{a:RV}{x:AV}(h:K x)(ha:rv T H a=some x:=by simp only[rv,bR,ZA,Nat.reduceEqDiff,↓reduceIte,Nat.reduceAdd,Nat.reduceLeDiff,zz];with_reducible rfl):bt T H K [a]:=r_1 ha h
theorem r2Z{K:AV→Prop}{a b:RV}{x y:AV}(h:K (.tup [x,y]))(ha:rv T H a=some x:=by simp only[rv,bR,ZA,Nat.reduceEqDiff,↓reduceIte,Nat.reduceAdd,Nat.reduceLeDiff,zz];with_reducible rfl)(hb:rv T H b=some y:=by simp only[rv,bR,ZA,Nat.reduceEqDiff,↓reduceIte,Nat.reduceAdd,Nat.reduceLeDiff,zz];with_reducible rfl):bt T H K [a,b]:=r_2 ha hb h
theorem vY{dm:DM}{K:SP}{l:List Op2}{d:Option Nat}{i:Ins}{r:AV}(k:al P dm l (aH T d r) H nx K)(hi:ic i=.val:=by rfl)(hd:dm2 dm T i=true:=by first|rfl|(simp (disch:=omega) only[dm2,rI,wa,dL,ZA,Nat.reduceEqDiff,↓reduceIte,Nat.reduceAdd,Nat.reduceLeDiff,zz,jA];first|done|omega))(h:bk T H i=some r:=by(try simp (disch:=omega) only[dL,ZA,Nat.reduceEqDiff,↓reduceIte,Nat.reduceAdd,Nat.reduceLeDiff,ZV,reduceCtorEq,zz]);first|with_reducible rfl|(apply xF;(focus omega);with_reducible rfl)):al P dm (⟨d,none,i⟩::l) T H nx K:=gJ hi hd h k
theorem nvY{S:Hp}{K:SP}{l:List (Op2×Nat)}{d:Option Nat}{i:Ins}{r:AV}(k:be P S l (aH T d r) H nx K)(h:bk T S i=some r:=by(try simp (disch:=omega) only[dL,ZA,Nat.reduceEqDiff,↓reduceIte,Nat.reduceAdd,Nat.reduceLeDiff,ZV,reduceCtorEq,zz]);first|with_reducible rfl|(apply xF;(focus omega);with_reducible rfl)):be P S ((⟨d,none,i⟩,0)::l) T H nx K:=BZ h k
theorem cY{dm:DM}{K:SP}{l:List Op2}{d:Option Nat}{f:Opd}{args:List Opd}{g:FuncId}{caps xs:List AV}{r:AV}(k:al P dm l (aH T d r) H nx K)(hf:ov T f=.func g caps:=by(try simp (disch:=omega) only[dL,ZA,Nat.reduceEqDiff,↓reduceIte,Nat.reduceAdd,Nat.reduceLeDiff,zz]);(try with_reducible rfl);first|done|fail)(ha:args.map (ov T)++caps=xs:=by(try simp (disch:=omega) only[dL,ZA,Nat.reduceEqDiff,↓reduceIte,Nat.reduceAdd,Nat.reduceLeDiff,zz]);(try with_reducible rfl);first|done|fail)(hp:Pure P g xs r)(hs:ax H xs xs r:=by(first|refine ak ?_ rfl|apply au);(repeat' (first|exact ai|apply aD|(apply aw;(focus with_reducible assumption))));first|done|fail):al P dm (⟨d,none,.call f args⟩::l) T H nx K:=u9 hf ha hp hs k
theorem alY{dm:DM}{K:SP}{l:List Op2}{d:Option Nat}{z:AV}{cs:List AV}(k:al P dm l (aH T d (.ptr nx cs.length 0)) (am H nx cs) (nx+1) K)(hd:dm2 dm T (.alloc z)=true:=by first|rfl|(simp (disch:=omega) only[dm2,rI,wa,dL,ZA,Nat.reduceEqDiff,↓reduceIte,Nat.reduceAdd,Nat.reduceLeDiff,zz,jA];first|done|omega))(hc:z.cells=cs:=by(try simp (disch:=omega) only[dL,ZA,Nat.reduceEqDiff,↓reduceIte,Nat.reduceAdd,Nat.reduceLeDiff,zz]);(try with_reducible rfl);first|done|fail)(ho:AV.ones cs=true:=by simp (disch:=omega) only[SO,Bool.and_self,fx,eD,zz];first|done|fail):al P dm (⟨d,none,.alloc z⟩::l) T H nx K:=uD hd hc ho k
theorem stY{dm:DM}{K:SP}{l:List Op2}{d:Option Nat}{sz:Nat}{p x:Opd}{b n off:Nat}{v:AV}{cs vs:List AV}(k:al P dm l (aH T d (.tup [])) (am H b (bv cs off vs)) nx K)(hd:dm2 dm T (.st sz p x)=true:=by first|rfl|(simp (disch:=omega) only[dm2,rI,wa,dL,ZA,Nat.reduceEqDiff,↓reduceIte,Nat.reduceAdd,Nat.reduceLeDiff,zz,jA];first|done|omega))(hp:ov T p=.ptr b n off:=by(try simp (disch:=omega) only[dL,ZA,Nat.reduceEqDiff,↓reduceIte,Nat.reduceAdd,Nat.reduceLeDiff,zz]);(try with_reducible rfl);first|done|fail)(hx:ov T x=v:=by(try simp (disch:=omega) only[dL,ZA,Nat.reduceEqDiff,↓reduceIte,Nat.reduceAdd,Nat.reduceLeDiff,zz]);(try with_reducible rfl);first|done|fail)(hb:H b=some cs:=by(try simp (disch:=omega) only[dL,ZA,Nat.reduceEqDiff,↓reduceIte,Nat.reduceAdd,Nat.reduceLeDiff,zz]);(try with_reducible rfl);first|done|fail)(hc:v.cells=vs:=by(try simp (disch:=omega) only[dL,ZA,Nat.reduceEqDiff,↓reduceIte,Nat.reduceAdd,Nat.reduceLeDiff,zz]);(try with_reducible rfl);first|done|fail)(ho:AV.ones vs=true:=by simp (disch:=omega) only[SO,Bool.and_self,fx,eD,zz];first|done|fail)(hn:cs.length=n:=by(try simp only[SL,Nat.reduceAdd,Nat.reduceMul,dM]);first|done|omega)(hl:vs.length=sz:=by(try simp only[SL,Nat.reduceAdd,Nat.reduceMul,dM]);first|done|omega)(hf:off+sz≤n:=by(try simp only[SL,Nat.reduceAdd,Nat.reduceMul,dM]);first|done|omega):al P dm (⟨d,none,.st sz p x⟩::l) T H nx K:=B5 hd hp hx hb hc ho hn hl hf k
theorem blY{dm:DM}{K:SP}{l:List Op2}{d:Option Nat}{sz len:Nat}{z:List AV}{parts:List (Nat×Nat×Opd)}{pv:List (Nat×Nat×AV)}{cs:List AV}(k:al P dm l (aH T d (.msl nx cs.length sz 0 len)) (am H nx cs) (nx+1) K)(hd:dm2 dm T (.bldS sz len z parts)=true:=by first|rfl|(simp (disch:=omega) only[dm2,rI,wa,dL,ZA,Nat.reduceEqDiff,↓reduceIte,Nat.reduceAdd,Nat.reduceLeDiff,zz,jA];first|done|omega))(hl:len≠0:=by exact Nat.succ_ne_zero _)(hp:parts.map (fun p=>(p.1,p.2.1,ov T p.2.2))=pv:=by(try simp (disch:=omega) only[dL,ZA,Nat.reduceEqDiff,↓reduceIte,Nat.reduceAdd,Nat.reduceLeDiff,zz]);(try with_reducible rfl);first|done|fail)(hc:dw (bn (.agg z) len) pv=some cs:=by(try simp (disch:=omega) only[dL,ZA,Nat.reduceEqDiff,↓reduceIte,Nat.reduceAdd,Nat.reduceLeDiff,SO,Bool.and_self,fx,eD,zz]);(try with_reducible rfl);first|done|fail):al P dm (⟨d,none,.bldS sz len z parts⟩::l) T H nx K:=zN hd hl hp hc k
theorem gTY{dm:DM}{K:SP}{l:List Op2}{d:Option Nat}{i:Ins}{t:Nat}{w:Bool}(k:al P dm (⟨d,none,i⟩::l) T H nx K)(h:T t=.bool w:=by simp (disch:=omega) only[dL,ZA,Nat.reduceEqDiff,↓reduceIte,Nat.reduceAdd,Nat.reduceLeDiff,zz];first|done|fail):al P dm (⟨d,some (t,w),i⟩::l) T H nx K:=AM h k
theorem gFY{dm:DM}{K:SP}{l:List Op2}{d:Option Nat}{i:Ins}{t:Nat}{w:Bool}(k:al P dm l (aH T d (.tup [])) H nx K)(h:T t=.bool (!w)∨T t=.tup []:=by simp (disch:=omega) only[dL,ZA,Nat.reduceEqDiff,↓reduceIte,Nat.reduceAdd,Nat.reduceLeDiff,or_true,true_or,zz];first|done|fail):al P dm (⟨d,some (t,w),i⟩::l) T H nx K:=A6 h k
theorem cTY{K:CP}{c:Opd}{x y:C2}(h1:aG P x T H nx K)(hc:ov T c=.bool true:=by simp (disch:=omega) only[dL,ZA,Nat.reduceEqDiff,↓reduceIte,Nat.reduceAdd,Nat.reduceLeDiff,zz];first|done|fail):aG P (.cond c x y) T H nx K:=uN hc h1
theorem cFY{K:CP}{c:Opd}{x y:C2}(h2:aG P y T H nx K)(hc:ov T c=.bool false:=by simp (disch:=omega) only[dL,ZA,Nat.reduceEqDiff,↓reduceIte,Nat.reduceAdd,Nat.reduceLeDiff,zz];first|done|fail):aG P (.cond c x y) T H nx K:=va hc h2
theorem r1Y{K:AV→Prop}{a:RV}{x:AV}(h:K x)(ha:rv T H a=some x:=by simp (disch:=omega) only[rv,dL,ZA,Nat.reduceEqDiff,↓reduceIte,Nat.reduceAdd,Nat.reduceLeDiff,zz];with_reducible rfl):bt T H K [a]:=r_1 ha h
theorem r2Y{K:AV→Prop}{a b:RV}{x y:AV}(h:K (.tup [x,y]))(ha:rv T H a=some x:=by simp (disch:=omega) only[rv,dL,ZA,Nat.reduceEqDiff,↓reduceIte,Nat.reduceAdd,Nat.reduceLeDiff,zz];with_reducible rfl)(hb:rv T H b=some y:=by simp (disch:=omega) only[rv,dL,ZA,Nat.reduceEqDiff,↓reduceIte,Nat.reduceAdd,Nat.reduceLeDiff,zz];with_reducible rfl):bt T H K [a,b]:=r_2 ha hb h
class StW(A:Prop)(B:outParam Prop):Prop where st:B→A
class StO(A:Prop)(B:outParam Prop):Prop where st:B→A
class StM(A:Prop)(B:outParam Prop):Prop where st:B→A
theorem zW{A B:Prop}[i:StW A B](h:B):A:=i.st h
theorem zO{A B:Prop}[i:StO A B](h:B):A:=i.st h
theorem zM{A B:Prop}[i:StM A B](h:B):A:=i.st h
instance{K:CP}{x y:C2}:StW (aG P (.seq x y) T H nx K) (aG P x T H nx fun e T H nx=>aV e (aG P y T H nx K) (K e T H nx)):=⟨cC⟩
instance{K:CP}{i:Nat}{b:C2}:StW (aG P (.block i b) T H nx K) (aG P b T H nx fun e T H nx=>K (lj i e) T H nx):=⟨dg⟩
instance{K:CP}{b:C2}:StW (aG P (.loop b) T H nx K) (a7 (aG P b) T H nx K):=⟨xo⟩
instance{K:CP}:StO (aG P .skip T H nx K) (K .normal T H nx):=⟨AB⟩
instance{K:CP}{i:Nat}:StO (aG P (.exit i) T H nx K) (K (.exit i) T H nx):=⟨AK⟩
instance{K:CP}:StO (aG P .ret T H nx K) (K .ret T H nx):=⟨Cf⟩
instance{K:CP}{l:List Op2}:StO (aG P (.ops 0 l) T H nx K) (al P .text l T H nx fun T H nx=>K .normal T H nx):=⟨Az⟩
instance{K:CP}{l:List Op2}:StO (aG P (.ops 1 l) T H nx K) (al P .draw l T H nx fun T H nx=>K .normal T H nx):=⟨AX⟩
instance{K:CP}{l:List Op2}:StO (aG P (.ops 2 l) T H nx K) (al P (.fresh nx) l T H nx fun T H nx=>K .normal T H nx):=⟨Ar⟩
instance{K:CP}{l:List Op2}{C:List Nat}:StO (aG P (.mix 1 l C) T H nx K) (al P .draw l T H nx fun T H nx=>K .normal T H nx):=⟨AF⟩
instance{K:CP}{l:List Op2}{C:List Nat}:StO (aG P (.mix 2 l C) T H nx K) (al P (.fresh nx) l T H nx fun T H nx=>K .normal T H nx):=⟨Ao⟩
instance{dm:DM}{K:SP}:StO (al P dm [] T H nx K) (K T H nx):=⟨uL⟩
instance{S:Hp}{K:SP}:StO (be P S [] T H nx K) (K T H nx):=⟨Bl⟩
instance{S:Hp}{K:SP}{l:List (Op2×Nat)}{d:Option Nat}{i:Ins}:StO (be P S ((⟨d,none,i⟩,2)::l) T H nx K) (al P .text [⟨d,none,i⟩] T H nx fun T H nx=>be P S l T H nx K):=⟨w7⟩
instance{K:AV→Prop}:StO (bt T H K []) (K (.tup [])):=⟨r_0⟩
instance{K:CP}{l:List Op2}{C:List (Nat×Nat)}:StM (aG P (.mixS 1 l C) T H nx K) (al P .draw l T H nx fun T H nx=>K .normal T H nx):=⟨yS⟩
instance{K:CP}{l:List Op2}{C:List (Nat×Nat)}:StM (aG P (.mixS 2 l C) T H nx K) (al P (.fresh nx) l T H nx fun T H nx=>K .normal T H nx):=⟨yz⟩
class NZ(b w:Bool)(p q:outParam Prop):Prop where
 t:b=w→p
 f:b=!w→q
instance(priority:=10){b:Bool}:NZ b true (b=true) (b=false):=⟨id,id⟩
instance(priority:=10){b:Bool}:NZ b false (b=false) (b=true):=⟨id,id⟩
instance{p:Prop}{i:Decidable p}:NZ (decide p) true p (¬p):=⟨nJ,of_decide_eq_false⟩
instance{p:Prop}{i:Decidable p}:NZ (decide p) false (¬p) p:=⟨of_decide_eq_false,nJ⟩
instance(priority:=2000):NZ true true True False:=⟨fun _=>trivial,fun h=>by cases h⟩
instance(priority:=2000):NZ true false False True:=⟨fun h=>(by cases h),fun _=>trivial⟩
instance(priority:=2000):NZ false true False True:=⟨fun h=>(by cases h),fun _=>trivial⟩
instance(priority:=2000):NZ false false True False:=⟨fun _=>trivial,fun h=>by cases h⟩
instance(priority:=2000){i:Decidable True}:NZ (decide True) true True False:=⟨fun _=>trivial,fun h=>of_decide_eq_false h trivial⟩
instance(priority:=2000){i:Decidable True}:NZ (decide True) false False True:=⟨fun h=>of_decide_eq_false h trivial,fun _=>trivial⟩
instance(priority:=2000){i:Decidable False}:NZ (decide False) true False True:=⟨nJ,fun _=>trivial⟩
instance(priority:=2000){i:Decidable False}:NZ (decide False) false True False:=⟨fun _=>trivial,nJ⟩
instance{b w:Bool}{p q:Prop}[i:NZ b w p q]:NZ (!b) w q p:=⟨fun h=>i.f (by cases b<;>cases w<;>simp_all),fun h=>i.t (by cases b<;>cases w<;>simp_all)⟩
class StG(A:Prop)(v:outParam AV)(w:outParam Bool)(B C:outParam Prop):Prop where
 st:∀b:Bool,v=.bool b→(b=w→B)→(b=!w→C)→A
instance{K:CP}{c:Opd}{x y:C2}:StG (aG P (.cond c x y) T H nx K) (ov T c) true (aG P x T H nx K) (aG P y T H nx K):=⟨fun _ h k1 k2=>tx h k1 k2⟩
instance{dm:DM}{K:SP}{l:List Op2}{d:Option Nat}{i:Ins}{t:Nat}:StG (al P dm (⟨d,some (t,true),i⟩::l) T H nx K) (T t) true (al P dm (⟨d,none,i⟩::l) (upd T t (.bool true)) H nx K) (al P dm l (aH (upd T t (.bool false)) d (.tup [])) H nx K):=⟨fun _ h k1 k2=>Ce h k1 k2⟩
instance{dm:DM}{K:SP}{l:List Op2}{d:Option Nat}{i:Ins}{t:Nat}:StG (al P dm (⟨d,some (t,false),i⟩::l) T H nx K) (T t) false (al P dm (⟨d,none,i⟩::l) (upd T t (.bool false)) H nx K) (al P dm l (aH (upd T t (.bool true)) d (.tup [])) H nx K):=⟨fun _ h k1 k2=>Ce h k1 k2⟩
theorem zGZ{A:Prop}{v:AV}{w b:Bool}{B C p q:Prop}[i:StG A v w B C][n:NZ b w p q](k1:p→B)(k2:q→C)(h:v=.bool b:=by(try simp only[bR,ZA,Nat.reduceEqDiff,↓reduceIte,Nat.reduceAdd,Nat.reduceLeDiff,zz]);(try with_reducible rfl);first|done|fail):A:=i.st b h (fun h=>k1 (n.t h)) (fun h=>k2 (n.f h))
theorem zGY{A:Prop}{v:AV}{w b:Bool}{B C p q:Prop}[i:StG A v w B C][n:NZ b w p q](k1:p→B)(k2:q→C)(h:v=.bool b:=by(try simp (disch:=omega) only[dL,ZA,Nat.reduceEqDiff,↓reduceIte,Nat.reduceAdd,Nat.reduceLeDiff,zz]);(try with_reducible rfl);first|done|fail):A:=i.st b h (fun h=>k1 (n.t h)) (fun h=>k2 (n.f h))
structure WkQ(B:Prop):Prop where
 q:B
class DatLI(l:List AV):Prop where
 d:∀x∈l,Dat x
instance:DatLI []:=⟨fun _ h=>(by cases h)⟩
instance{x:AV}{l:List AV}[h:DatI x][k:DatLI l]:DatLI (x::l):=⟨DatL.cons h.d k.d⟩
instance{l:List AV}[k:DatLI l]:DatI (.agg l):=⟨Dat.agg k.d⟩
instance{f:FuncId}{l:List AV}[k:DatLI l]:DatI (.func f l):=⟨Dat.func k.d⟩
instance{l:List AV}{n:Nat}[k:DatLI l]:DatI (.iptr l n):=⟨Dat.iptr k.d⟩
theorem lpI{b:C2}{K:CP}{X:Type}(L:X→List (Nat×AV))(I:X→Hp→Nat→Prop)(μ:X→Nat)(x0:X)(h0:I x0 H nx)
    (step:∀x H nx,I x H nx→aG P b (tl (L x)) H nx fun e T H' nx'=>aV e (∃y,μ y<μ x∧I y H' nx'∧agr T (L y)) (K e T H' nx')) (hT:agr T (L x0):=by(repeat' (first|exact trivial|refine And.intro rfl ?_));first|done|fail):a7 (aG P b) T H nx K:=bo L I μ x0 h0 hT step
end Go.Abs
namespace Go.Abs
open Go.RowKit
end Go.Abs
namespace Go.Abs
open Go Go.RowKit
def oY(W:World):Nat→Prop:=fun b=>b<W.heap.size
theorem wv{W:World}{a:Addr}{v:Value}(h:W.cell? a=some v):oY W a.block∧a.spot=none:=by
 unfold World.cell? at h;unfold oY;cases hb:W.heap[a.block]? with
 |none=>simp[hb] at h
 |some o=>
  refine⟨(fA.1 hb).1,?_⟩;cases hs:a.spot with
  |none=>rfl
  |some s=>cases o<;>simp[hb,hs] at h
section
variable{H:Type}{enc:TypeId×Value→H}{P:Program}{W:World}
def ec(enc:TypeId×Value→H)(P:Program)(W:World)(t:TypeId){α:Type}(f:α→AV)(good:α→Prop):Prop:=
 ∀(n:Nat)(cs:List Value)(x:DataW H×List MemPlace),DataW.trod enc P W 0 (fun _=>true) true n t cs=some x→(∀k∈x.1.weights P t,k≤reachBytes)→∃a:α,good a∧cJ (E0 (oY W)) W (f a).cells cs
theorem ec.mono{t:TypeId}{α:Type}{f:α→AV}{good good':α→Prop}(h:ec enc P W t f good)(hg:∀a,good a→good' a):ec enc P W t f good':=
 fun n cs x hx hw=>let ⟨a,h1,h2⟩:=h n cs x hx hw;⟨a,hg a h1,h2⟩
theorem m9 {E:Env} {w:World} {x:AV} {y:Value} (h:Rel E w x y):cJ E w [x] [y]:=⟨rfl,fun i a b ha hb=>by
 cases i with
 |zero=>simp at ha hb;subst ha hb;exact h
 |succ i=>simp at ha⟩
theorem cJ.app{E:Env}{w:World}{xs xs':List AV}{ys ys':List Value}(h:cJ E w xs ys)(h':cJ E w xs' ys'):cJ E w (xs++xs') (ys++ys'):=by
 have hl:xs.length=ys.length:=h.1.symm;refine⟨by simp[h.1,h'.1],fun i a b ha hb=>?_⟩;by_cases hi:i<xs.length
 ·rw[eV hi] at ha;rw[eV (by omega)] at hb;exact h.2 i a b ha hb
 ·rw[fJ (by omega)] at ha;rw[fJ (by omega)] at hb;rw[hl] at ha;exact h'.2 _ a b ha hb
theorem wT{t:TypeId}{k:IntKind}(ht:P.underlying t=some (.int k)):ec enc P W t (AV.int k) (fun n=>(Lit.int k n).wf=true):=fun n cs x hx _=>by
 obtain⟨a,rfl,rfl,hw⟩:=DataW.trod_int ht hx;exact⟨a,hw,m9 (.int _ _)⟩
theorem ou{e:TypeId}{l:List (DataW H)}{d:DataW H}(h:d∈l){k:Nat}(hk:k∈d.weights P e):k∈DataW.weightsAll P e l:=by
 induction l with
 |nil=>cases h
 |cons a l ih=>
  unfold DataW.weightsAll;rcases fo.1 h with rfl|h
  ·exact o5 _ hk
  ·exact rk _ (ih h)
theorem sb{α:Type}{len:Nat}{Q:Nat→α→Prop}(h:∀i,i<len→∃a,Q i a):∃l:List α,l.length=len∧∀i a,l[i]?=some a→Q i a:=by
 induction len with
 |zero=>exact⟨[],rfl,fun i a h=>by simp at h⟩
 |succ n ih=>
  obtain⟨l,h1,h2⟩:=ih (fun i hi=>h i (by omega));obtain⟨a,ha⟩:=h n (by omega);refine⟨l++[a],by simp[h1],fun i b hb=>?_⟩;by_cases hi:i<l.length
  ·rw[eV hi] at hb;exact h2 i b hb
  ·rw[fJ (by omega)] at hb
   have:i-l.length=0:=by
    by_cases h0:i-l.length=0
    ·exact h0
    ·rw[List.getElem?_eq_none (by simp;omega)] at hb;cases hb
   rw[this] at hb;simp at hb;subst hb;have:i=n:=by omega
   subst this;exact ha
theorem sD{t e:TypeId}{sz by_:Nat}{α:Type}{f:α→AV}{good:α→Prop}(ht:P.underlying t=some (.slice e))(hsz:P.cellsOf e=sz)(hby:P.bytesOf e=by_)(hpos:0<sz)(hc:∀a,(f a).cells.length=sz)
    (he:ec enc P W e f good):ec enc P W t (ug sz f) (fun l=>(∀a∈l,good a)∧l.length≤9223372036854775807∧l.length*by_≤140737488351232):=fun n cs x hx hw=>by
 rcases Go.Deep.open_slice ht hx with⟨rfl,rfl⟩|⟨a,len,cap,m,n',D,Pl,rfl,hb,hlc,hcm,hm,hxe,hel⟩
 ·exact⟨[],⟨fun _ h=>(by cases h),by simp,by simp⟩,m9 (.slnil _)⟩
 simp only[if_true] at hm;subst hxe;subst hm;have hw':∀k∈((DataW.slice (H:=H) ((List.range len).map D) ((List.range (m-len)).map fun j=>D (len+j))).weights P t),k≤reachBytes:=hw;simp only[DataW.weights,ht] at hw';have hlen:(((List.range len).map D).length+((List.range (m-len)).map fun j=>D (len+j)).length)*P.bytesOf e≤reachBytes:=hw' _ (wk ..)
 have hbd:len*by_≤140737488351232:=by
  rw[hby] at hlen;simp only[dM,List.length_range] at hlen;have h1:len*by_≤(len+(m-len))*by_:=iz _ (by omega);have h2:reachBytes=140737488351232:=rfl;omega
 have hlm:len≤9223372036854775807:=fR hlc hcm
 have key:∀i,i<len→∃a':α,good a'∧∃cs',W.cells? 0 (a.add (i*sz)) sz=some cs'∧cJ (E0 (oY W)) W (f a').cells cs':=fun i hi=>by
  obtain⟨cs',h1,h2⟩:=hel i (by omega);rw[hsz] at h1;obtain⟨a',g1,g2⟩:=he n' cs' _ h2 (fun k hk=>hw' k (yq _ (o5 _ (ou (dp.2 ⟨i,en.2 hi,rfl⟩) hk))));exact⟨a',g1,cs',h1,g2⟩
 obtain⟨l,hl,hq⟩:=sb key;refine⟨l,⟨fun x hx=>?_,by omega,by rw[hl];exact hbd⟩,m9 ?_⟩
 ·obtain⟨i,hi⟩:=rO hx;exact(hq i x hi).1
 by_cases h0:len=0
 ·subst h0;have:l=[]:=e8.1 hl;subst this;exact .slempty _ _ _
 have hcell:∀i j,i<len→j<sz→∃v,W.cell? ((a.add (i*sz)).add j)=some v:=fun i j hi hj=>by
  obtain⟨a',_,cs',h1,h2⟩:=key i hi;unfold World.cells? at h1;rw[if_pos (cu _)] at h1;have h3:=mapM_some_get h1 j j (by simp[hj])
  have h4:j<cs'.length:=by
   have:=mapM_some_length h1;simp at this;omega
  exact⟨cs'[j],by rw[h3];simp[h4]⟩
 obtain⟨v0,hv0⟩:=hcell 0 0 (by omega) hpos;have ho:=wv hv0;simp only[Nat.zero_mul,Addr.add,if_true] at ho;obtain⟨blk,off,sp⟩:=a;obtain⟨ho,hsp⟩:=ho;simp only at hsp ho;subst hsp
 have hadd:∀i j,((⟨blk,off,none⟩:Addr).add (i*sz)).add j=⟨blk,off+(i*sz+j),none⟩:=fun i j=>by
  rw[bM,bM,pi]
 have hcell':∀k,k<len*sz→∃v,W.cell? ⟨blk,off+k,none⟩=some v:=fun k hk=>by
  have h1:k/sz<len:=Nat.div_lt_of_lt_mul (by rw[Nat.mul_comm];exact hk);have h2:k%sz<sz:=Nat.mod_lt _ hpos;obtain⟨v,hv⟩:=hcell (k/sz) (k%sz) h1 h2;rw[hadd,Nat.div_add_mod'] at hv;exact⟨v,hv⟩
 have hlen2:(l.map f).length=len:=by simp[hl]
 have:=Rel.sl (E:=E0 (oY W)) (w:=W) sz (l.map f) blk off m (fun k=>(W.cell? ⟨blk,off+k,none⟩).getD Go.undef) ho (by rw[hlen2];exact hlc)
  (fun x hx=>by obtain⟨b,_,rfl⟩:=dp.1 hx;exact hc b)
  (fun k hk=>by
   rw[hlen2] at hk;obtain⟨v,hv⟩:=hcell' k hk;simp only[hv,tF])
  (fun i j x y hx hy=>by
   rw[jW,Option.map_eq_some_iff] at hx;obtain⟨a',ha',rfl⟩:=hx;obtain⟨_,cs',h1,h2⟩:=hq i a' ha'
   have hj:j<sz:=by
    have:=(bC.1 hy).1
    rwa [hc] at this
   have hi:i<len:=by
    have:=(bC.1 ha').1;omega
   unfold World.cells? at h1;rw[if_pos (cu _)] at h1;have h3:=mapM_some_get h1 j j (by simp[hj])
   have h4:j<cs'.length:=by
    have:=mapM_some_length h1;simp at this;omega
   rw[hadd] at h3;have h5:cs'[j]?=some cs'[j]:=by simp[h4]
   rw[h5] at h3;simp only[h3,tF];exact h2.2 j y _ hy h5)
 rw[hlen2] at this;exact this
def qt(enc:TypeId×Value→H)(P:Program)(W:World)(fs:List Field)(off:Nat){α:Type}(g:α→List AV)(good:α→Prop):Prop:=
 ∀(n tot:Nat)(cs:List Value)(ys:List (DataW H×List MemPlace)),ys.length=fs.length→(∀(i:Nat)(f:Field),fs[i]?=some f→DataW.trod enc P W 0 (fun _=>true) true n f.type ((cs.drop f.offset).take (P.cellsOf f.type))=ys[i]?)→
  (∀k∈DataW.weightsEach P (fs.map fun f:Field=>f.type) (ys.map (·.1)),k≤reachBytes)→cs.length=tot→tot=off+(fs.map fun f:Field=>P.cellsOf f.type).sum→∃a:α,good a∧cJ (E0 (oY W)) W (g a) (cs.drop off)
theorem um{off:Nat}:qt enc P W [] off (fun _:Unit=>[]) (fun _=>True):=fun n tot cs ys _ _ _ h1 h2=>by
 refine⟨(),trivial,?_⟩;rw[jD (by simp at h2;omega)];exact⟨rfl,fun i a b h=>by simp at h⟩
theorem jg{fd:Field}{fs:List Field}{off off':Nat}{α β:Type}{f:α→AV}{g:β→List AV}{good:α→Prop}{good':β→Prop}(ho:fd.offset=off)(ho':off+P.cellsOf fd.type=off')
    (h:ec enc P W fd.type f good) (h':qt enc P W fs off' g good'):qt enc P W (fd::fs) off (fun a:α×β=>(f a.1).cells++g a.2) (fun a=>good a.1∧good' a.2):=fun n tot cs ys hl hy hw h1 h2=>by
 obtain⟨y,ys,rfl⟩:∃y ys',ys=y::ys':=by
  cases ys with
  |nil=>simp at hl
  |cons y ys=>exact⟨y,ys,rfl⟩
 have hy0:=hy 0 fd rfl;simp only[mA] at hy0;rw[ho] at hy0;simp only[fZ,DataW.weightsEach] at hw;obtain⟨a,g1,g2⟩:=h n _ y hy0 (fun k hk=>hw k (o5 _ hk));simp only[fZ,List.sum_cons] at h2
 obtain ⟨b,g3,g4⟩:=h' n tot cs ys (by simpa using hl) (fun i f hf=>by
  have:=hy (i+1) f (by simpa using hf);simpa using this) (fun k hk=>hw k (rk _ hk)) h1 (by omega)
 refine⟨(a,b),⟨g1,g3⟩,?_⟩
 have e:cs.drop off=(cs.drop off).take (P.cellsOf fd.type)++cs.drop off':=by
  rw[←ho',←List.drop_drop,uq]
 rw[e];exact cJ.app g2 g4
theorem qf{t:TypeId}{fs:Array Field}{α:Type}{g:α→List AV}{good:α→Prop}(ht:P.underlying t=some (.struct fs))(hsum:P.cellsOf t=(fs.toList.map fun f:Field=>P.cellsOf f.type).sum)
    (h:qt enc P W fs.toList 0 g good):ec enc P W t (fun a=>.agg (g a)) good:=fun n cs x hx hw=>by
 obtain⟨ys,n',rfl,rfl,hl,hs,hy⟩:=DataW.trod_struct ht hx
 obtain ⟨a,g1,g2⟩:=h n' _ cs ys (by rw [hs]; simp) (fun i f hf=>hy i f (by simpa using hf)) (fun k hk=>hw k (by
  simp only[DataW.weights,ht];exact hk)) hl (by rw[bQ,hsum])
 exact⟨a,g1,by rw[List.drop_zero] at g2;exact g2⟩
theorem ec.map{t:TypeId}{α β:Type}{f:α→AV}{good:α→Prop}{f':β→AV}{good':β→Prop}(h:ec enc P W t f good)(φ:α→β)(hg:∀a,good a→good' (φ a))(hf:∀a,good a→(f' (φ a)).cells=(f a).cells):ec enc P W t f' good':=fun n cs x hx hw=>by
 obtain⟨a,h1,h2⟩:=h n cs x hx hw;exact⟨φ a,hg a h1,by rw[hf a h1];exact h2⟩
theorem ec.at{t u:TypeId}{α:Type}{f:α→AV}{good:α→Prop}(e:t=u)(h:ec enc P W u f good):ec enc P W t f good:=e▸h
theorem ec.argA{t:TypeId}{α:Type}{f:α→AV}{good:α→Prop}(h:ec enc P W t f good){r:Reach}{base:Nat}{v:Value}{d:DataW H}{ps:List MemPlace}(ht:kI P t=true)(hf:∀a,∃cs,f a=.agg cs)
    (hval:Value.okWide P W r base t v) (hd:DataW.Trod enc P W 0 (fun _=>true) true t v d ps) (hw:∀k∈d.weights P t,k≤reachBytes):∃a,good a∧Rel (E0 (oY W)) W (f a) v:=by
 obtain⟨n,hn⟩:=hd;obtain⟨a,h1,h2⟩:=h n _ _ hn hw;refine⟨a,h1,?_⟩
 obtain⟨cs,hcs,_⟩:∃cs,v=.agg cs∧True:=by
  unfold Value.okWide at hval;unfold kI at ht;split at hval
  ·obtain⟨cs,h,_⟩:=hval;exact⟨cs,h,trivial⟩
  ·obtain⟨cs,h,_⟩:=hval;exact⟨cs,h,trivial⟩
  ·rename_i k1 k2;revert ht;cases hu:P.underlying t with
   |none=>simp
   |some u=>
    cases u with
    |struct fs=>exact absurd hu (k1 fs)
    |array m e=>exact absurd hu (k2 m e)
    |_=>simp
 subst hcs;obtain⟨xs,hx⟩:=hf a;rw[hx] at h2 ⊢;exact .agg xs cs.toList h2.1 h2.2
theorem ec.arg1{t:TypeId}{α:Type}{f:α→AV}{good:α→Prop}(h:ec enc P W t f good){v:Value}{d:DataW H}{ps:List MemPlace}(hf:∀a,(f a).cells=[f a])(hv:v.cells=#[v])
    (hd:DataW.Trod enc P W 0 (fun _=>true) true t v d ps) (hw:∀k∈d.weights P t,k≤reachBytes):∃a,good a∧Rel (E0 (oY W)) W (f a) v:=by
 obtain⟨n,hn⟩:=hd;obtain⟨a,h1,h2⟩:=h n _ _ hn hw;rw[hf,hv] at h2;exact⟨a,h1,h2.2 0 _ _ rfl rfl⟩
theorem wy{t:TypeId}{r:Reach}{base:Nat}{v:Value}(ht:kI P t=false)(hval:Value.okWide P W r base t v):v.cells=#[v]:=by
 cases v<;>try rfl
 rename_i cs;exfalso;unfold Value.okWide at hval;unfold kI at ht;cases hu:P.underlying t with
 |none=>simp only[hu,Cell.okWide,Cell.ok] at hval
 |some u=>
  rw[hu] at ht;cases u<;>simp only[hu,Cell.okWide,Cell.ok] at hval<;>simp at ht
theorem jO(hl:laidOutB P=true){W':World}(hb:Below W.heap.size W W'){sp:Nat→Bool}:∀{ts:List TypeId}{vs:List Value}{ds:List (DataW H)}{ps:List MemPlace},(∀t∈ts,P.readableRec t=true∧t<P.types.size)→
    DataW.TrodAll enc P W 0 (fun _=>true) true ts vs ds ps→(∀p∈ps,p.block<W.heap.size)→(∀p∈ps,sp p.block=true)→DataW.TrodAll enc P W' 0 sp true ts vs ds ps
 |[],[],[],ps,_,h,_,_=>h
 |t::ts,v::vs,d::ds,ps,hr,⟨p,q,h1,h2,e⟩,hlt,hsp=>by
  subst e
  exact ⟨p,q,WideElems.Trod_stays hl (hr t (wk ..)).1 (hr t (wk ..)).2 h1 (fun x hx=>hb.same (hlt x (o5 _ hx))) (fun x hx=>hsp x (o5 _ hx)),
   jO hl hb (fun t ht=>hr t (yq _ ht)) h2 (fun x hx=>hlt x (rk _ hx)) (fun x hx=>hsp x (rk _ hx)),rfl⟩
 |[],_::_,_,_,_,h,_,_=>h.elim
 |[],[],_::_,_,_,h,_,_=>h.elim
 |_::_,[],_,_,_,h,_,_=>h.elim
 |_::_,_::_,[],_,_,h,_,_=>h.elim
theorem jl:∀{ts:List TypeId}{ds:List (DataW H)}{i:Nat}{t:TypeId}{d:DataW H},ts[i]?=some t→ds[i]?=some d→∀k∈d.weights P t,k∈DataW.weightsEach P ts ds
 |t::ts,d::ds,0,_,_,h1,h2,k,hk=>by
  simp at h1 h2;subst h1 h2;unfold DataW.weightsEach;exact o5 _ hk
 |t::ts,d::ds,i+1,_,_,h1,h2,k,hk=>by
  unfold DataW.weightsEach;exact rk _ (jl (ts:=ts) (ds:=ds) (by simpa using h1) (by simpa using h2) k hk)
 |[],_,i,_,_,h1,_,_,_=>by simp at h1
 |_::_,[],i,_,_,_,h2,_,_=>by simp at h2
end
end Go.Abs