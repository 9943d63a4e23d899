/- Texts of this claim, one after the other: AbsB9, AbsBX, AbsC1, AbsC2, AbsC3, AbsC4, AbsC5, AbsC6, AbsC7, AbsC8. -/
import Derived.Test.YtbiikomnhkbblaaGreatXG2
import Derived.Laws.IdiomStrings
import Derived.Laws.BytesArg
import Derived.IntWalk

set_option linter.unusedSimpArgs false
set_option linter.unusedVariables false
namespace Go.Abs
open Go.RowKit
theorem run_lift {P:Program} {w w':World} {s:Sem Value} {v:Value} (h:s.run P w=.ok v w'):(do pure (Next.value (← s)):Sem Next).run P w=.ok (.value v) w':=by
  simp only [Sem.run_bind,h,Result.andThen_ok]; rfl
theorem run_liftU {P:Program} {w w':World} {s:Sem Unit} (h:s.run P w=.ok () w'):(do s; pure Next.skip:Sem Next).run P w=.ok .skip w':=by
  simp only [Sem.run_bind,h,Result.andThen_ok]; rfl
def tmap (P:Program) (t:TypeId):Option (TypeId × TypeId):=match P.underlying t with
  | some (.map k e)=>some (k,e)
  | _=>none
theorem tmap_eq {P:Program} {t k e:TypeId} (h:tmap P t=some (k,e)):P.underlying t=some (.map k e):=by
  unfold tmap at h; split at h
  · cases h; assumption
  · cases h
theorem run_getObj' {P:Program} {w:World} {k:Nat} {o:Obj} (h:w.heap[k]?=some o) (hc:isCells o=false):(getObj k).run P w=.ok o w:=by cases o <;> first | (cases hc; done) | simp [getObj,Sem.run,h]
theorem run_setObj' {P:Program} {w:World} {k:Nat} {o o':Obj} (h:w.heap[k]?=some o) (hc:isCells o=false):(setObj k o').run P w=.ok () (w.putObj k o'):=by cases o <;> first | (cases hc; done) | simp [setObj,Sem.run,h,World.putObj]
theorem Fresh.sp {E E':Env} {nx:Nat} (h:Fresh E nx) {k:Nat} (he:E'={ E with sp:=fun b=>if b=nx then some k else E.sp b }):Fresh E' (nx + 1):=by
  intro b hb
  subst he
  obtain ⟨h1,h2,h3⟩:=h b (by omega)
  exact ⟨h1,by show (if b=nx then _ else _)=none; rw [if_neg (by omega)]; exact h2,h3⟩
theorem aspec_makeMap {P:Program} {t:TypeId} {r:Option Operand} {T:Tm} {H:Hp} {nx:Nat} {K:AV→Hp→Nat→Prop} (ht:r=none ∨ ∃ x n k p,r=some x∧ev T x=.int k n∧tmap P t=some p)
    (h:K (.mp nx) (hupd H nx [.omap [] []]) (nx + 1)):aspec P (.makeMap t r) T H nx K:=by
  refine aspec_of_run (by intro c; simp) ?_
  rintro E w a ⟨dst,op,type,pos,after,guard⟩ ho hE hh hf htm
  simp only at ho
  subst ho
  obtain ⟨E',hE',he,hEo,hh',hs,hnew⟩:=sp_new hE hh (hf nx (Nat.le_refl _)) (.map #[] 0) rfl (by intro ds; simp)
  have hspm:=hEo.spm nx _ hs
  refine ⟨.value (.map (some w.heap.size)),.map (some w.heap.size),w.alloc (.map #[] 0),E',.mp nx,_,nx + 1,?_,.inl rfl,he,hEo,hh'.addSp (x:=.omap [] []) (Nat.lt_succ_self _) hspm hs ⟨#[],0,hnew,⟨rfl,rfl,by simp,by simp,by simp,rfl⟩⟩,hf.sp hE',.mp _ _ hs,h⟩
  refine run_lift ?_
  rcases ht with rfl | ⟨x,n,k,p,rfl,hx,hp⟩
  · simp only [Option.map_none,Instr.makeMap,Sem.run_bind,run_newObj_alloc,Result.andThen_ok]
    rfl
  · have hr:=htm x (by simp [Op.operands,Call.operands])
    rw [hx] at hr
    generalize hvx:a.eval x=vx at hr
    cases hr
    have hu:=tmap_eq (P:=P) (t:=t) (k:=p.1) (e:=p.2) hp
    simp only [Option.map_some,hvx,Instr.makeMap,Sem.run_bind,run_underlying hu,asInt,Sem.run_pure,run_newObj_alloc,Result.andThen_ok]
    rfl
theorem map_at {E:Env} {H:Hp} {nx:Nat} {w:World} (hh:HeapOk E H nx w) {b k:Nat} {ks vs:List AV} (hb:H b=some [.omap ks vs]) (hs:E.sp b=some k):∃ es clock,w.heap[k]?=some (.map es clock)∧MapOk E w ks vs es clock:=by
  obtain ⟨k',h1,es,clock,h2,h3⟩:=hh.spec b _ hb rfl
  rw [hs] at h1; cases h1
  exact ⟨es,clock,h2,h3⟩
theorem map_set {E:Env} {H:Hp} {nx:Nat} {w:World} (hE:EnvOk E w) (hh:HeapOk E H nx w) {b k:Nat} {ks vs ks' vs':List AV} {es es':Array MapEntry} {clock clock':Nat} (hb:H b=some [.omap ks vs]) (hs:E.sp b=some k) (hw:w.heap[k]?=some (.map es clock))
    (hm:MapOk E w ks' vs' es' clock'):Ext E w E (w.putObj k (.map es' clock'))∧EnvOk E (w.putObj k (.map es' clock'))∧HeapOk E (hupd H b [.omap ks' vs']) nx (w.putObj k (.map es' clock')):=by
  have hlp:∀ r T,E.lp b=some (r,T)→False:=by
    intro r T h
    obtain ⟨k',st,p,h1,h2,_⟩:=hE.lp b r T h
    rw [hs] at h1; cases h1
    rw [hw] at h2; cases h2
  obtain ⟨q1,q2,q3⟩:=sp_set hE (hh.del b) hs hw (o':=.map es' clock') rfl rfl (by intro ds; simp) (by intro ds; simp) (fun r T h=>(hlp r T h).elim) (fun x hx=>by rw [hdel_self] at hx; cases hx)
  refine ⟨q1,q2,?_⟩
  have hH:hupd (hdel H b) b [.omap ks' vs']=hupd H b [.omap ks' vs']:=by
    funext y; unfold hupd hdel; split <;> rfl
  rw [← hH]
  exact q3.addSp (hh.dom _ _ hb) (q2.spm b k hs) hs ⟨es',clock',World.putObj_heap_same (Array.getElem?_eq_some_iff.1 hw).1,hm.ext q1⟩
def msetK (key:AV) (r:Option Nat) (ks:List AV):List AV:=match r with | some _=>ks | none=>ks ++ [key]
def msetV (v:AV) (r:Option Nat) (vs:List AV):List AV:=match r with | some i=>vs.set i v | none=>vs ++ [v]
theorem bytes_inj {a b:ByteArray} (h:a.toList=b.toList):a=b:=by
  rw [ByteArray.toList_eq,ByteArray.toList_eq] at h
  obtain ⟨⟨x⟩⟩:=a
  obtain ⟨⟨y⟩⟩:=b
  simp at h; rw [h]
theorem same1_eq {k:TK} {x y:AV} (h:same1 k x y=some true):x=y:=by
  unfold same1 at h
  split at h
  · split at h
    · subst_vars; simp at h; rw [h]
    · cases h
  · simp at h
    rw [bytes_inj h]
  · simp at h; rw [h]
  · cases h
theorem sameL_eq:∀ {ks:List TK} {xs ys:List AV},sameL ks xs ys=some true→xs=ys
  | [],[],[],_=>rfl
  | k :: ks,x :: xs,y :: ys,h=>by
    simp only [sameL] at h
    split at h
    · rename_i hs; rw [same1_eq hs,sameL_eq h]
    · cases h
    · cases h
  | [],_ :: _,_,h=>by cases h
  | [],[],_ :: _,h=>by cases h
  | _ :: _,[],_,h=>by cases h
  | _ :: _,_ :: _,[],h=>by cases h
theorem ksame_eq {k:MK} {x y:AV} (h:ksame k x y=some true):x=y:=by
  cases k with
  | one k=>exact same1_eq h
  | st ks =>
    cases x <;> first | (cases h; done) | skip
    cases y <;> first | (cases h; done) | skip
    rw [sameL_eq h]
theorem mfind_some {k:MK} {key:AV}:∀ {ks:List AV} {i:Nat},mfind k key ks=some (some i)→∃ x,ks[i]?=some x∧ksame k key x=some true
  | [],i,h=>by cases h
  | x :: l,i,h=>by
    simp only [mfind] at h
    split at h
    · rename_i hs; cases h; exact ⟨x,rfl,hs⟩
    · cases hm:mfind k key l with
      | none=>rw [hm] at h; cases h
      | some r =>
        rw [hm] at h
        cases r with
        | none=>cases h
        | some j =>
          cases h
          obtain ⟨y,h1,h2⟩:=mfind_some hm
          exact ⟨y,by simpa using h1,h2⟩
    · cases h
theorem same1_bits {E:Env} {w:World} {k:TK} {x y:AV} {vx vy:Value} (hx:Rel E w x vx) (hy:Rel E w y vy) (h:same1 k x y=some true) (n:Nat):Instr.sameBits n vy vx=true:=by
  unfold same1 at h
  split at h
  · cases hx; cases hy
    split at h
    · subst_vars; simp at h; subst h; cases n <;> simp [Instr.sameBits]
    · cases h
  · cases hx; cases hy
    simp at h
    rw [bytes_inj h]
    cases n <;> simp [Instr.sameBits,beq_toListBytes]
  · cases hx; cases hy
    simp at h; subst h; cases n <;> simp [Instr.sameBits]
  · cases h
theorem sameL_bits {E:Env} {w:World} {n:Nat}:∀ {ks:List TK} {xs ys:List AV} {vx vy:List Value},RelL E w xs vx→RelL E w ys vy→sameL ks xs ys=some true→vx.length=vy.length∧((vy.zip vx).all fun (x,y)=>Instr.sameBits n x y)=true
  | [],[],[],vx,vy,hx,hy,h=>by
    have h1:vx=[]:=List.length_eq_zero_iff.1 hx.1
    have h2:vy=[]:=List.length_eq_zero_iff.1 hy.1
    subst h1 h2; exact ⟨rfl,rfl⟩
  | k :: ks,x :: xs,y :: ys,vx,vy,hx,hy,h=>by
    cases vx with
    | nil=>have:=hx.1; simp at this
    | cons v1 vx =>
    cases vy with
    | nil=>have:=hy.1; simp at this
    | cons v2 vy =>
    simp only [sameL] at h
    split at h
    · rename_i hs
      have r1:RelL E w xs vx:=⟨by have:=hx.1; simpa using this,fun i a b ha hb=>hx.2 (i + 1) a b (by simpa using ha) (by simpa using hb)⟩
      have r2:RelL E w ys vy:=⟨by have:=hy.1; simpa using this,fun i a b ha hb=>hy.2 (i + 1) a b (by simpa using ha) (by simpa using hb)⟩
      obtain ⟨e1,e2⟩:=sameL_bits (n:=n) r1 r2 h
      refine ⟨by simp [e1],?_⟩
      simp only [List.zip_cons_cons,List.all_cons,Bool.and_eq_true]
      exact ⟨same1_bits (hx.2 0 x v1 rfl rfl) (hy.2 0 y v2 rfl rfl) hs n,e2⟩
    · cases h
    · cases h
  | [],_ :: _,_,_,_,_,_,h=>by cases h
  | [],[],_ :: _,_,_,_,_,h=>by cases h
  | _ :: _,[],_,_,_,_,_,h=>by cases h
  | _ :: _,_ :: _,[],_,_,_,_,h=>by cases h
theorem ksame_bits {E:Env} {w:World} {k:MK} {x y:AV} {vx vy:Value} (hx:Rel E w x vx) (hy:Rel E w y vy) (h:ksame k x y=some true):Instr.sameBits 10000 vy vx=true:=by
  cases k with
  | one k=>exact same1_bits hx hy h _
  | st ks =>
    cases x <;> first | (cases h; done) | skip
    cases y <;> first | (cases h; done) | skip
    cases hx with
    | agg _ v1 l1 r1 =>
    cases hy with
    | agg _ v2 l2 r2 =>
    obtain ⟨e1,e2⟩:=sameL_bits (n:=9999) ⟨l1,r1⟩ ⟨l2,r2⟩ h
    show Instr.sameBits (9999 + 1) _ _=true
    simp only [Instr.sameBits,Bool.and_eq_true]
    exact ⟨by simp [e1],e2⟩
theorem aspec_mapUpdate {P:Program} {t kt et:TypeId} {m k x:Operand} {T:Tm} {H:Hp} {nx b:Nat} {K:AV→Hp→Nat→Prop} {mk:MK} {ks vs:List AV} {r:Option Nat} (ht:tmap P t=some (kt,et)) (hk:mkk P kt=some mk)
    (hm:ev T m=.mp b) (hb:H b=some [.omap ks vs]) (hfit:kfit mk (ev T k)=true) (hr:mfind mk (ev T k) ks=some r)
    (h:K (.tup []) (hupd H b [.omap (msetK (ev T k) r ks) (msetV (ev T x) r vs)]) nx):aspec P (.mapUpdate t m k x) T H nx K:=by
  refine aspec_of_run (by intro c; simp) ?_
  rintro E w a ⟨dst,op,type,pos,after,guard⟩ ho hE hh hf htm
  simp only at ho
  subst ho
  have hmr:=htm m (by simp [Op.operands,Call.operands])
  have hkr:=htm k (by simp [Op.operands,Call.operands])
  have hxr:=htm x (by simp [Op.operands,Call.operands])
  rw [hm] at hmr
  generalize hvm:a.eval m=vm at hmr
  cases hmr with
  | mp _ kb hs =>
  obtain ⟨es,clock,hw,hok⟩:=map_at hh hb hs
  have hck:=run_checkKey (P:=P) (w:=w) hk hkr hfit false
  have hfk:=findKey_sound (P:=P) (es:=es.toList) (ks:=ks) hk hkr (by simpa using hok.len) (fun j y e h1 h2=>hok.key j y e h1 (by simpa using h2)) hr
  have hu:=tmap_eq ht
  have key:∃ es' clock',(Instr.mapUpdate t (.map (some kb)) (a.eval k) (a.eval x)).run P w=.ok () (w.putObj kb (.map es' clock'))∧MapOk E w (msetK (ev T k) r ks) (msetV (ev T x) r vs) es' clock':=by
    unfold Instr.mapUpdate
    simp only [Sem.run_bind,run_underlying hu,Result.andThen_ok,run_getObj' hw rfl,hck,hfk]
    cases r with
    | none =>
      simp only [mres,Option.map_none,run_setObj' hw rfl]
      refine ⟨_,_,rfl,?_⟩
      have hl:=hok.len
      have hl':=hok.len'
      refine ⟨by simp [msetK,hl],by simp [msetV,msetK,hl'],fun i y e h1 h2=>?_,fun i y e h1 h2=>?_,fun i e h1=>?_,by simp [hok.clk]⟩
      · simp only [msetK] at h1
        rw [Array.getElem?_push] at h2
        split at h2
        · rename_i he
          cases h2
          rw [he,hl,List.getElem?_append_right (Nat.le_refl _)] at h1
          simp at h1; subst h1; exact hkr
        · rename_i hne
          have hlt:i < es.size:=(Array.getElem?_eq_some_iff.1 h2).1
          rw [List.getElem?_append_left (by omega)] at h1
          exact hok.key i y e h1 h2
      · simp only [msetV] at h1
        rw [Array.getElem?_push] at h2
        split at h2
        · rename_i he
          cases h2
          rw [he,hl,List.getElem?_append_right (by omega)] at h1
          simp [hl'] at h1; subst h1; exact hxr
        · rename_i hne
          have hlt:i < es.size:=(Array.getElem?_eq_some_iff.1 h2).1
          rw [List.getElem?_append_left (by omega)] at h1
          exact hok.val i y e h1 h2
      · rw [Array.getElem?_push] at h1
        split at h1
        · rename_i he; cases h1; rw [he]; exact hok.clk
        · exact hok.born i e h1
    | some i =>
      obtain ⟨y,hy,hsame⟩:=mfind_some hr
      have hlt:i < es.size:=by have:=(List.getElem?_eq_some_iff.1 hy).1; have:=hok.len; omega
      have hbits:=ksame_bits hkr (hok.key i y es[i] hy (by simp [hlt])) hsame
      have hkeep:(Instr.keyThatStays (((es[i]?).map (·.key)).getD (a.eval k)) (a.eval k)).run P w=.ok (a.eval k) w:=by
        unfold Instr.keyThatStays
        simp only [hlt,Array.getElem?_eq_getElem,Option.map_some,Option.getD_some]
        rw [if_pos hbits]; rfl
      simp only [mres,Option.map_some,Nat.zero_add,Sem.run_bind,hkeep,Result.andThen_ok,run_setObj' hw rfl]
      refine ⟨_,_,rfl,?_⟩
      have hmod:∀ j e,(es.modify i fun e=>{ e with key:=a.eval k,val:=a.eval x })[j]?=some e→∃ e0,es[j]?=some e0∧((i=j∧e={ e0 with key:=a.eval k,val:=a.eval x }) ∨ (i ≠ j∧e=e0)):=by
        intro j e he
        rw [Array.getElem?_modify] at he
        split at he
        · rename_i hij
          cases h0:es[j]? with
          | none=>rw [h0] at he; cases he
          | some e0=>rw [h0] at he; cases he; exact ⟨e0,rfl,.inl ⟨hij,rfl⟩⟩
        · rename_i hij; exact ⟨e,he,.inr ⟨hij,rfl⟩⟩
      refine ⟨by simp [msetK,hok.len],by simp [msetV,msetK,hok.len'],fun j z e h1 h2=>?_,fun j z e h1 h2=>?_,fun j e h1=>?_,by simp [hok.clk]⟩
      · obtain ⟨e0,k1,(⟨rfl,rfl⟩ | ⟨hne,rfl⟩)⟩:=hmod j e h2
        · simp only [msetK] at h1
          rw [hy] at h1; cases h1
          rw [← ksame_eq hsame]; exact hkr
        · exact hok.key j z e h1 k1
      · obtain ⟨e0,k1,(⟨rfl,rfl⟩ | ⟨hne,rfl⟩)⟩:=hmod j e h2
        · simp only [msetV] at h1
          have:i < vs.length:=by have:=hok.len'; have:=hok.len; omega
          rw [List.getElem?_set_self this] at h1
          cases h1; exact hxr
        · simp only [msetV] at h1
          rw [List.getElem?_set_ne hne] at h1
          exact hok.val j z e h1 k1
      · obtain ⟨e0,k1,(⟨rfl,rfl⟩ | ⟨hne,rfl⟩)⟩:=hmod j e h1
        · exact hok.born i e0 k1
        · exact hok.born j e k1
  obtain ⟨es',clock',hrun,hok'⟩:=key
  obtain ⟨q1,q2,q3⟩:=map_set hE hh hb hs hw hok'
  refine ⟨.skip,Go.undef,_,E,.tup [],_,nx,?_,.inr ⟨rfl,rfl⟩,q1,q2,q3,hf,undef_rel _ _,h⟩
  refine run_liftU ?_
  show (Instr.mapUpdate t (a.eval m) (a.eval k) (a.eval x)).run P w=_
  rw [hvm]; exact hrun
def mget (z:AV) (ok:Bool) (r:Option Nat) (vs:List AV):AV:=match r with
  | some i=>if ok=true then .tup [vs.getD i .undef,.bool true] else vs.getD i .undef
  | none=>if ok=true then .tup [z,.bool false] else z
theorem rel_tup2 {E:Env} {w:World} {x y:AV} {u v:Value} (h1:Rel E w x u) (h2:Rel E w y v):Rel E w (.tup [x,y]) (.tuple #[u,v]):=by
  refine Rel.tup [x,y] [u,v] rfl (fun i a b ha hb=>?_)
  match i with
  | 0=>cases ha; cases hb; exact h1
  | 1=>cases ha; cases hb; exact h2
  | i + 2=>cases ha
theorem rel_tup3 {E:Env} {w:World} {x y z:AV} {u v t:Value} (h1:Rel E w x u) (h2:Rel E w y v) (h3:Rel E w z t):Rel E w (.tup [x,y,z]) (.tuple #[u,v,t]):=by
  refine Rel.tup [x,y,z] [u,v,t] rfl (fun i a b ha hb=>?_)
  match i with
  | 0=>cases ha; cases hb; exact h1
  | 1=>cases ha; cases hb; exact h2
  | 2=>cases ha; cases hb; exact h3
  | i + 3=>cases ha
theorem rel_tup1 {E:Env} {w:World} {x:AV} {u:Value} (h1:Rel E w x u):Rel E w (.tup [x]) (.tuple #[u]):=by
  refine Rel.tup [x] [u] rfl (fun i a b ha hb=>?_)
  match i with
  | 0=>cases ha; cases hb; exact h1
  | i + 1=>cases ha
theorem aspec_lookup {P:Program} {t kt et:TypeId} {m k:Operand} {ok:Bool} {T:Tm} {H:Hp} {nx b:Nat} {K:AV→Hp→Nat→Prop} {mk:MK} {ks vs:List AV} {r:Option Nat} {z:AV} (ht:tmap P t=some (kt,et)) (hk:mkk P kt=some mk) (hz:azero P et=some z)
    (hm:ev T m=.mp b) (hb:H b=some [.omap ks vs]) (hfit:kfit mk (ev T k)=true) (hr:mfind mk (ev T k) ks=some r)
    (h:K (mget z ok r vs) H nx):aspec P (.lookup t m k ok) T H nx K:=by
  refine aspec_of_run (by intro c; simp) ?_
  rintro E w a ⟨dst,op,type,pos,after,guard⟩ ho hE hh hf htm
  simp only at ho
  subst ho
  have hmr:=htm m (by simp [Op.operands,Call.operands])
  have hkr:=htm k (by simp [Op.operands,Call.operands])
  rw [hm] at hmr
  generalize hvm:a.eval m=vm at hmr
  cases hmr with
  | mp _ kb hs =>
  obtain ⟨es,clock,hw,hok⟩:=map_at hh hb hs
  have hck:=run_checkKey (P:=P) (w:=w) hk hkr hfit es.isEmpty
  have hfk:=findKey_sound (P:=P) (es:=es.toList) (ks:=ks) hk hkr (by simpa using hok.len) (fun j y e h1 h2=>hok.key j y e h1 (by simpa using h2)) hr
  have hu:=tmap_eq ht
  obtain ⟨vz,hvz,hrz⟩:=azero_sound hz
  have key:∃ v,(Instr.lookup t (.map (some kb)) (a.eval k) ok).run P w=.ok v w∧Rel E w (mget z ok r vs) v:=by
    unfold Instr.lookup
    simp only [Sem.run_bind,run_underlying hu,Result.andThen_ok,run_getObj' hw rfl,Sem.run_pure,hck,hfk]
    cases r with
    | none =>
      simp only [mres,Option.map_none,Sem.run_bind,hvz,Result.andThen_ok,Sem.run_pure]
      refine ⟨_,rfl,?_⟩
      unfold mget
      cases ok with
      | true=>exact rel_tup2 (hrz E w) (.bool _)
      | false=>exact hrz E w
    | some i =>
      obtain ⟨y,hy,hsame⟩:=mfind_some hr
      have hlt:i < es.size:=by have:=(List.getElem?_eq_some_iff.1 hy).1; have:=hok.len; omega
      have hlv:i < vs.length:=by have:=hok.len'; have:=hok.len; omega
      simp only [mres,Option.map_some,Sem.run_pure,Result.andThen_ok]
      refine ⟨_,rfl,?_⟩
      have e1:es.toList.getD i default=es[i]:=by simp [List.getD,hlt]
      have e2:vs.getD i .undef=vs[i]:=by simp [List.getD,hlv]
      have hrel:=hok.val i vs[i] es[i] (by simp [hlv]) (by simp [hlt])
      rw [e1]
      cases ok with
      | true =>
        show Rel E w (.tup [vs.getD i .undef,.bool true]) _
        rw [e2]; exact rel_tup2 hrel (.bool _)
      | false =>
        show Rel E w (vs.getD i .undef) _
        rw [e2]; exact hrel
  obtain ⟨v,hrun,hrel⟩:=key
  refine ⟨.value v,v,w,E,_,H,nx,?_,.inl rfl,Ext.refl _ _,hE,hh,hf,hrel,h⟩
  refine run_lift ?_
  show (Instr.lookup t (a.eval m) (a.eval k) ok).run P w=_
  rw [hvm]; exact hrun
def mplV (z:AV) (r:Option Nat) (vs:List AV):List AV:=match r with | some _=>vs | none=>vs ++ [z]
def mplI (r:Option Nat) (ks:List AV):Nat:=match r with | some i=>i | none=>ks.length
def mplO (z:AV) (r:Option Nat) (vs:List AV):AV:=match r with | some i=>vs.getD i .undef | none=>z
theorem aspec_mapEntry {P:Program} {t kt et:TypeId} {m k:Operand} {T:Tm} {H:Hp} {nx b:Nat} {K:AV→Hp→Nat→Prop} {mk:MK} {ks vs:List AV} {r:Option Nat} {z:AV} (ht:tmap P t=some (kt,et)) (hk:mkk P kt=some mk) (hz:azero P et=some z)
    (hm:ev T m=.mp b) (hb:H b=some [.omap ks vs]) (hfit:kfit mk (ev T k)=true) (hr:mfind mk (ev T k) ks=some r)
    (h:K (.tup [mplO z r vs,.int .i64 (mplI r ks)]) (hupd H b [.omap (msetK (ev T k) r ks) (mplV z r vs)]) nx):aspec P (.mapEntry t m k) T H nx K:=by
  refine aspec_of_run (by intro c; simp) ?_
  rintro E w a ⟨dst,op,type,pos,after,guard⟩ ho hE hh hf htm
  simp only at ho
  subst ho
  have hmr:=htm m (by simp [Op.operands,Call.operands])
  have hkr:=htm k (by simp [Op.operands,Call.operands])
  rw [hm] at hmr
  generalize hvm:a.eval m=vm at hmr
  cases hmr with
  | mp _ kb hs =>
  obtain ⟨es,clock,hw,hok⟩:=map_at hh hb hs
  have hck:=run_checkKey (P:=P) (w:=w) hk hkr hfit false
  have hfk:=findKey_sound (P:=P) (es:=es.toList) (ks:=ks) hk hkr (by simpa using hok.len) (fun j y e h1 h2=>hok.key j y e h1 (by simpa using h2)) hr
  have hu:=tmap_eq ht
  obtain ⟨vz,hvz,hrz⟩:=azero_sound hz
  have key:∃ v es' clock',(Instr.mapEntry t (.map (some kb)) (a.eval k)).run P w=.ok v (w.putObj kb (.map es' clock'))∧MapOk E w (msetK (ev T k) r ks) (mplV z r vs) es' clock'∧Rel E w (.tup [mplO z r vs,.int .i64 (mplI r ks)]) v:=by
    unfold Instr.mapEntry
    simp only [Sem.run_bind,run_underlying hu,Result.andThen_ok,run_getObj' hw rfl,hck,hfk]
    cases r with
    | none =>
      simp only [mres,Option.map_none,Sem.run_bind,hvz,Result.andThen_ok,run_setObj' hw rfl,Sem.run_pure]
      have hl:=hok.len
      have hl':=hok.len'
      refine ⟨_,_,_,rfl,⟨by simp [msetK,hl],by simp [mplV,msetK,hl'],fun i y e h1 h2=>?_,fun i y e h1 h2=>?_,fun i e h1=>?_,by simp [hok.clk]⟩,?_⟩
      · simp only [msetK] at h1
        rw [Array.getElem?_push] at h2
        split at h2
        · rename_i he
          cases h2
          rw [he,hl,List.getElem?_append_right (Nat.le_refl _)] at h1
          simp at h1; subst h1; exact hkr
        · rename_i hne
          have hlt:i < es.size:=(Array.getElem?_eq_some_iff.1 h2).1
          rw [List.getElem?_append_left (by omega)] at h1
          exact hok.key i y e h1 h2
      · simp only [mplV] at h1
        rw [Array.getElem?_push] at h2
        split at h2
        · rename_i he
          cases h2
          rw [he,hl,List.getElem?_append_right (by omega)] at h1
          simp [hl'] at h1; subst h1; exact hrz E w
        · rename_i hne
          have hlt:i < es.size:=(Array.getElem?_eq_some_iff.1 h2).1
          rw [List.getElem?_append_left (by omega)] at h1
          exact hok.val i y e h1 h2
      · rw [Array.getElem?_push] at h1
        split at h1
        · rename_i he; cases h1; rw [he]; exact hok.clk
        · exact hok.born i e h1
      · refine rel_tup2 (hrz E w) ?_
        rw [show (mplI none ks:Int)=(clock:Int) by rw [hok.clk,hl]; rfl]
        exact .int _ _
    | some i =>
      obtain ⟨y,hy,hsame⟩:=mfind_some hr
      have hlt:i < es.size:=by have:=(List.getElem?_eq_some_iff.1 hy).1; have:=hok.len; omega
      have hlv:i < vs.length:=by have:=hok.len'; have:=hok.len; omega
      have hbits:=ksame_bits hkr (hok.key i y es[i] hy (by simp [hlt])) hsame
      have hkeep:(Instr.keyThatStays (((es[i]?).map (·.key)).getD (a.eval k)) (a.eval k)).run P w=.ok (a.eval k) w:=by
        unfold Instr.keyThatStays
        simp only [hlt,Array.getElem?_eq_getElem,Option.map_some,Option.getD_some]
        rw [if_pos hbits]; rfl
      simp only [mres,Option.map_some,Nat.zero_add,Sem.run_bind,hkeep,Result.andThen_ok,run_setObj' hw rfl,Sem.run_pure]
      have hmod:∀ j e,(es.modify i fun e=>{ e with key:=a.eval k })[j]?=some e→∃ e0,es[j]?=some e0∧((i=j∧e={ e0 with key:=a.eval k }) ∨ (i ≠ j∧e=e0)):=by
        intro j e he
        rw [Array.getElem?_modify] at he
        split at he
        · rename_i hij
          cases h0:es[j]? with
          | none=>rw [h0] at he; cases he
          | some e0=>rw [h0] at he; cases he; exact ⟨e0,rfl,.inl ⟨hij,rfl⟩⟩
        · rename_i hij; exact ⟨e,he,.inr ⟨hij,rfl⟩⟩
      refine ⟨_,_,_,rfl,⟨by simp [msetK,hok.len],by simp [mplV,msetK,hok.len'],fun j z' e h1 h2=>?_,fun j z' e h1 h2=>?_,fun j e h1=>?_,by simp [hok.clk]⟩,?_⟩
      · obtain ⟨e0,k1,(⟨rfl,rfl⟩ | ⟨hne,rfl⟩)⟩:=hmod j e h2
        · simp only [msetK] at h1
          rw [hy] at h1; cases h1
          rw [← ksame_eq hsame]; exact hkr
        · exact hok.key j z' e h1 k1
      · simp only [mplV] at h1
        obtain ⟨e0,k1,(⟨rfl,rfl⟩ | ⟨hne,rfl⟩)⟩:=hmod j e h2
        · exact hok.val i z' e0 h1 k1
        · exact hok.val j z' e h1 k1
      · obtain ⟨e0,k1,(⟨rfl,rfl⟩ | ⟨hne,rfl⟩)⟩:=hmod j e h1
        · exact hok.born i e0 k1
        · exact hok.born j e k1
      · have e1:es.toList.getD i default=es[i]:=by simp [List.getD,hlt]
        have e2:vs.getD i .undef=vs[i]:=by simp [List.getD,hlv]
        have hrel:=hok.val i vs[i] es[i] (by simp [hlv]) (by simp [hlt])
        have hbn:=hok.born i es[i] (by simp [hlt])
        rw [e1]
        simp only [hlt,Array.getElem?_eq_getElem,Option.map_some,Option.getD_some,hbn]
        show Rel E w (.tup [vs.getD i .undef,.int .i64 (i:Nat)]) _
        rw [e2]
        exact rel_tup2 hrel (.int _ _)
  obtain ⟨v,es',clock',hrun,hok',hrel⟩:=key
  obtain ⟨q1,q2,q3⟩:=map_set hE hh hb hs hw hok'
  refine ⟨.value v,v,_,E,_,_,nx,?_,.inl rfl,q1,q2,q3,hf,hrel.ext q1,h⟩
  refine run_lift ?_
  show (Instr.mapEntry t (a.eval m) (a.eval k)).run P w=_
  rw [hvm]; exact hrun
theorem aspec_entryStore {P:Program} {t:TypeId} {m s x:Operand} {T:Tm} {H:Hp} {nx b i:Nat} {K:AV→Hp→Nat→Prop} {ks vs:List AV}
    (hm:ev T m=.mp b) (hb:H b=some [.omap ks vs]) (hi:ev T s=.int .i64 (i:Int)) (hlt:i < ks.length)
    (h:K (.tup []) (hupd H b [.omap ks (vs.set i (ev T x))]) nx):aspec P (.entryStore t m s x) T H nx K:=by
  refine aspec_of_run (by intro c; simp) ?_
  rintro E w a ⟨dst,op,type,pos,after,guard⟩ ho hE hh hf htm
  simp only at ho
  subst ho
  have hmr:=htm m (by simp [Op.operands,Call.operands])
  have hsr:=htm s (by simp [Op.operands,Call.operands])
  have hxr:=htm x (by simp [Op.operands,Call.operands])
  rw [hm] at hmr
  rw [hi] at hsr
  generalize hvm:a.eval m=vm at hmr
  generalize hvs:a.eval s=vs1 at hsr
  cases hsr
  cases hmr with
  | mp _ kb hs =>
  obtain ⟨es,clock,hw,hok⟩:=map_at hh hb hs
  have hle:i < es.size:=by have:=hok.len; omega
  have hfi:es.findIdx? (fun e=>(e.born:Int) == (i:Int))=some i:=by
    rw [Array.findIdx?_eq_some_iff_getElem]
    refine ⟨hle,?_,fun j hj=>?_⟩
    · have:=hok.born i es[i] (by simp [hle])
      simp [this]
    · have:=hok.born j es[j] (by simp [show j < es.size by omega])
      simp [this]; omega
  have key:∃ es' clock',(Instr.entryStore t (.map (some kb)) (.int .i64 (i:Int)) (a.eval x)).run P w=.ok () (w.putObj kb (.map es' clock'))∧MapOk E w ks (vs.set i (ev T x)) es' clock':=by
    unfold Instr.entryStore
    simp only [Sem.run_bind,Result.andThen_ok,run_getObj' hw rfl,asInt,asIntOf,Sem.run_pure,hfi,run_setObj' hw rfl]
    have hmod:∀ j e,(es.modify i fun e=>{ e with val:=a.eval x })[j]?=some e→∃ e0,es[j]?=some e0∧((i=j∧e={ e0 with val:=a.eval x }) ∨ (i ≠ j∧e=e0)):=by
      intro j e he
      rw [Array.getElem?_modify] at he
      split at he
      · rename_i hij
        cases h0:es[j]? with
        | none=>rw [h0] at he; cases he
        | some e0=>rw [h0] at he; cases he; exact ⟨e0,rfl,.inl ⟨hij,rfl⟩⟩
      · rename_i hij; exact ⟨e,he,.inr ⟨hij,rfl⟩⟩
    refine ⟨_,_,rfl,⟨by simp [hok.len],by simp [hok.len'],fun j z e h1 h2=>?_,fun j z e h1 h2=>?_,fun j e h1=>?_,by simp [hok.clk]⟩⟩
    · obtain ⟨e0,k1,(⟨rfl,rfl⟩ | ⟨hne,rfl⟩)⟩:=hmod j e h2
      · exact hok.key i z e0 h1 k1
      · exact hok.key j z e h1 k1
    · obtain ⟨e0,k1,(⟨rfl,rfl⟩ | ⟨hne,rfl⟩)⟩:=hmod j e h2
      · have:i < vs.length:=by have:=hok.len'; omega
        rw [List.getElem?_set_self this] at h1
        cases h1; exact hxr
      · rw [List.getElem?_set_ne hne] at h1
        exact hok.val j z e h1 k1
    · obtain ⟨e0,k1,(⟨rfl,rfl⟩ | ⟨hne,rfl⟩)⟩:=hmod j e h1
      · exact hok.born i e0 k1
      · exact hok.born j e k1
  obtain ⟨es',clock',hrun,hok'⟩:=key
  obtain ⟨q1,q2,q3⟩:=map_set hE hh hb hs hw hok'
  refine ⟨.skip,Go.undef,_,E,.tup [],_,nx,?_,.inr ⟨rfl,rfl⟩,q1,q2,q3,hf,undef_rel _ _,h⟩
  refine run_liftU ?_
  show (Instr.entryStore t (a.eval m) (a.eval s) (a.eval x)).run P w=_
  rw [hvm,hvs]; exact hrun
theorem aspec_mlen {P:Program} {t:TypeId} {m:Operand} {T:Tm} {H:Hp} {nx b:Nat} {K:AV→Hp→Nat→Prop} {p:TypeId × TypeId} {ks vs:List AV} (ht:tmap P t=some p) (hm:ev T m=.mp b) (hb:H b=some [.omap ks vs])
    (h:K (.int .i64 ks.length) H nx):aspec P (.call { callee:=.builtin .len,args:=#[m],argTypes:=#[t] }) T H nx K:=by
  refine aspec_of_run (by intro c; simp) ?_
  rintro E w a ⟨dst,op,type,pos,after,guard⟩ ho hE hh hf htm
  simp only at ho
  subst ho
  have hmr:=htm m (by simp [Op.operands,Call.operands])
  rw [hm] at hmr
  generalize hvm:a.eval m=vm at hmr
  cases hmr with
  | mp _ kb hs =>
  obtain ⟨es,clock,hw,hok⟩:=map_at hh hb hs
  have hu:=tmap_eq (P:=P) (t:=t) (k:=p.1) (e:=p.2) ht
  have hrun:(Builtin.len_ #[t] type #[.map (some kb)]).run P w=.ok (goInt es.size) w:=by
    unfold Builtin.len_
    simp [run_underlying hu,run_getObj' hw rfl]
  refine ⟨.value (goInt es.size),goInt es.size,w,E,_,H,nx,?_,.inl rfl,Ext.refl _ _,hE,hh,hf,?_,h⟩
  · simp only [execOp,resolve,invoke,builtin,Sem.run_bind,Sem.run_pure,Result.andThen_ok]
    simp [hvm,hrun]
  · rw [hok.len]; exact .int _ _
theorem aspec_mrange {P:Program} {t:TypeId} {m:Operand} {T:Tm} {H:Hp} {nx b:Nat} {K:AV→Hp→Nat→Prop} {p:TypeId × TypeId} {ks vs:List AV} (ht:tmap P t=some p) (hm:ev T m=.mp b) (hb:H b=some [.omap ks vs])
    (h:K (.itr nx) (hupd H nx [.oiter b ks.length []]) (nx + 1)):aspec P (.range t m) T H nx K:=by
  refine aspec_of_run (by intro c; simp) ?_
  rintro E w a ⟨dst,op,type,pos,after,guard⟩ ho hE hh hf htm
  simp only at ho
  subst ho
  have hmr:=htm m (by simp [Op.operands,Call.operands])
  rw [hm] at hmr
  generalize hvm:a.eval m=vm at hmr
  cases hmr with
  | mp _ kb hs =>
  obtain ⟨es,clock,hw,hok⟩:=map_at hh hb hs
  have hu:=tmap_eq (P:=P) (t:=t) (k:=p.1) (e:=p.2) ht
  obtain ⟨E',hE',he,hEo,hh',hs',hnew⟩:=sp_new hE hh (hf nx (Nat.le_refl _)) (.mapIter (some kb) clock #[] clock) rfl (by intro ds; simp)
  have hcl:clock=ks.length:=by rw [hok.clk,hok.len]
  refine ⟨.value (.pointer (some ⟨w.heap.size,0,none⟩)),.pointer (some ⟨w.heap.size,0,none⟩),w.alloc (.mapIter (some kb) clock #[] clock),E',.itr nx,_,nx + 1,?_,.inl rfl,he,hEo,
    hh'.addSp (x:=.oiter b ks.length []) (Nat.lt_succ_self _) (hEo.spm nx _ hs') hs' ⟨kb,clock,by rw [hnew,hcl],he.sp _ _ hs,fun h=>absurd rfl h,hcl⟩,hf.sp hE',.itr _ _ hs',h⟩
  refine run_lift ?_
  show (Instr.range t (a.eval m)).run P w=_
  rw [hvm]
  unfold Instr.range
  simp only [Sem.run_bind,run_underlying hu,Result.andThen_ok,run_getObj' hw rfl,Sem.run_pure,run_newObj_alloc]
theorem iter_at {E:Env} {H:Hp} {nx:Nat} {w:World} (hh:HeapOk E H nx w) {b k m n0:Nat} {seen:List Nat} (hb:H b=some [.oiter m n0 seen]) (hs:E.sp b=some k) :
    ∃ km last,w.heap[k]?=some (.mapIter (some km) n0 seen.toArray last)∧E.sp m=some km∧(seen ≠ []→0 < last)∧last=n0:=by
  obtain ⟨k',h1,h2⟩:=hh.spec b _ hb rfl
  rw [hs] at h1; cases h1
  exact h2
theorem filter_mem_get {es:Array MapEntry} {p:MapEntry→Bool} {e:MapEntry} (h:e ∈ es.filter p):(∃ i:Nat,es[i]?=some e)∧p e=true:=by
  rw [Array.mem_filter] at h
  obtain ⟨i,hi,rfl⟩:=Array.mem_iff_getElem.1 h.1
  exact ⟨⟨i,by simp [hi]⟩,h.2⟩
theorem run_choose_next {P:Program} {w:World} {n:Nat} (hn:0 < n):∃ c w1,(choose (.mapNext n)).run P w=.ok c w1∧c < n∧(w1=w ∨ w1=w.drew):=by
  rw [run_choose_drew]
  by_cases h:(Question.mapNext n).forced=true
  · rw [if_pos h]; exact ⟨0,w,rfl,hn,.inl rfl⟩
  · rw [if_neg h]; exact ⟨_,w.drew,rfl,Nat.mod_lt _ hn,.inr rfl⟩
def nextOld (es:Array MapEntry) (seen:List Nat) (n0:Nat):Array MapEntry:=(es.filter fun e=>!seen.toArray.contains e.born).filter (·.born < n0)
def nextNew (es:Array MapEntry) (seen:List Nat) (n0:Nat):Array MapEntry:=(es.filter fun e=>!seen.toArray.contains e.born).filter (·.born ≥ n0)
theorem run_next {P:Program} {w:World} {k km n0 last clock:Nat} {seen:List Nat} {es:Array MapEntry} {ty:TypeId} (hw:w.heap[k]?=some (.mapIter (some km) n0 seen.toArray last)) (hwm:w.heap[km]?=some (.map es clock))
    (hg:(!seen.toArray.isEmpty && !es.isEmpty && es.all (·.born ≥ last))=false) :
    ∃ w1,(w1=w ∨ w1=w.drew) ∧
      ((nextOld es seen n0).isEmpty=true∧(Instr.next (.pointer (some ⟨k,0,none⟩)) false ty).run P w=.ok (.tuple #[.bool false]) w1 ∨
       ∃ (e:MapEntry) (i:Nat),es[i]?=some e∧seen.toArray.contains e.born=false∧(Instr.next (.pointer (some ⟨k,0,none⟩)) false ty).run P w=.ok (.tuple #[.bool true,e.key,e.val]) (w1.putObj k (.mapIter (some km) n0 (seen.toArray.push e.born) clock))):=by
  let cand:Array (Option MapEntry):=(if (nextOld es seen n0).isEmpty then #[none] else #[]) ++ (nextOld es seen n0 ++ nextNew es seen n0).map some
  have hpos:0 < cand.size:=by
    show 0 < ((if (nextOld es seen n0).isEmpty then #[none] else #[]) ++ (nextOld es seen n0 ++ nextNew es seen n0).map some).size
    split
    · simp; omega
    · rename_i hne
      have:(nextOld es seen n0).size ≠ 0:=by intro h; exact hne (by simp [Array.isEmpty,h])
      simp; omega
  obtain ⟨c,w1,hc,hlt,hw1⟩:=run_choose_next (P:=P) (w:=w) hpos
  refine ⟨w1,hw1,?_⟩
  have hh1:w1.heap=w.heap:=by rcases hw1 with rfl | rfl <;> rfl
  have hget:cand[c]?=some cand[c]:=by simp [hlt]
  have hrun:(Instr.next (.pointer (some ⟨k,0,none⟩)) false ty).run P w=(match cand[c] with
      | some e=>(do setObj k (.mapIter (some km) n0 (seen.toArray.push e.born) clock); pure (.tuple #[.bool true,e.key,e.val]):Sem Value).run P w1
      | none=>.ok (.tuple #[.bool false]) w1):=by
    unfold Instr.next
    simp only [Sem.run_bind,run_getObj' hw rfl,run_getObj' hwm rfl,Result.andThen_ok,hg,Bool.false_eq_true,if_false]
    have hc':(choose (.mapNext ((if (Array.filter (fun (x:MapEntry)=>decide (x.born < n0)) (Array.filter (fun (e:MapEntry)=>!seen.toArray.contains e.born) es)).isEmpty then #[none] else #[]) ++ Array.map some (Array.filter (fun (x:MapEntry)=>decide (x.born < n0)) (Array.filter (fun (e:MapEntry)=>!seen.toArray.contains e.born) es) ++ Array.filter (fun (x:MapEntry)=>decide (x.born ≥ n0)) (Array.filter (fun (e:MapEntry)=>!seen.toArray.contains e.born) es))).size)).run P w=.ok c w1:=hc
    simp only [hc',Result.andThen_ok]
    have hget':((if (Array.filter (fun (x:MapEntry)=>decide (x.born < n0)) (Array.filter (fun (e:MapEntry)=>!seen.toArray.contains e.born) es)).isEmpty then #[none] else #[]) ++ Array.map some (Array.filter (fun (x:MapEntry)=>decide (x.born < n0)) (Array.filter (fun (e:MapEntry)=>!seen.toArray.contains e.born) es) ++ Array.filter (fun (x:MapEntry)=>decide (x.born ≥ n0)) (Array.filter (fun (e:MapEntry)=>!seen.toArray.contains e.born) es)))[c]?=some cand[c]:=hget
    rw [hget']
    cases cand[c] with
    | none=>rfl
    | some e=>simp only [Sem.run_bind]
  have hmem:cand[c] ∈ cand:=Array.getElem_mem hlt
  have hmem':cand[c] ∈ (if (nextOld es seen n0).isEmpty then #[none] else #[]) ++ (nextOld es seen n0 ++ nextNew es seen n0).map some:=hmem
  generalize cand[c]=x at hrun hmem'
  rw [Array.mem_append] at hmem'
  cases x with
  | none =>
    left
    refine ⟨?_,hrun⟩
    rcases hmem' with h | h
    · split at h
      · assumption
      · simp at h
    · simp at h
  | some e =>
    right
    have he:e ∈ nextOld es seen n0 ∨ e ∈ nextNew es seen n0:=by
      rcases hmem' with h | h
      · split at h <;> simp at h
      · simpa using h
    have hleft:e ∈ es.filter fun e=>!seen.toArray.contains e.born:=by
      rcases he with h | h
      · exact (Array.mem_filter.1 h).1
      · exact (Array.mem_filter.1 h).1
    obtain ⟨⟨i,hi⟩,hs⟩:=filter_mem_get hleft
    refine ⟨e,i,hi,by simpa using hs,?_⟩
    rw [hrun]
    have hw':w1.heap[k]?=some (.mapIter (some km) n0 seen.toArray last):=by rw [hh1]; exact hw
    simp only [Sem.run_bind,run_setObj' hw' rfl,Result.andThen_ok]
    rfl
theorem aspec_mnext {P:Program} {it:Operand} {T:Tm} {H:Hp} {nx b m n0:Nat} {K:AV→Hp→Nat→Prop} {ks vs:List AV} {seen:List Nat} (hi:ev T it=.itr b) (hb:H b=some [.oiter m n0 seen]) (hm:H m=some [.omap ks vs]) (hkn:ks.length=n0)
    (h1:∀ i,i < ks.length→i ∉ seen→K (.tup [.bool true,ks.getD i .undef,vs.getD i .undef]) (hupd H b [.oiter m n0 (seen ++ [i])]) nx)
    (h2:(∀ i,i < n0→i < ks.length→i ∈ seen)→K (.tup [.bool false]) H nx):aspec P (.next it false) T H nx K:=by
  refine aspec_of_run (by intro c; simp) ?_
  rintro E w a ⟨dst,op,type,pos,after,guard⟩ ho hE hh hf htm
  simp only at ho
  subst ho
  have hir:=htm it (by simp [Op.operands,Call.operands])
  rw [hi] at hir
  generalize hvi:a.eval it=vi at hir
  cases hir with
  | itr _ k hs =>
  obtain ⟨km,last,hw,hsm,hlast,hln⟩:=iter_at hh hb hs
  obtain ⟨es,clock,hwm,hok⟩:=map_at hh hm hsm
  have hl:=hok.len
  have hl':=hok.len'
  have hguard:(!seen.toArray.isEmpty && !es.isEmpty && es.all (·.born ≥ last))=false:=by
    by_cases hse:seen=[]
    · subst hse; rfl
    · have hpos:=hlast hse
      by_cases hz:es.size=0
      · have:es=#[]:=Array.eq_empty_of_size_eq_zero hz
        subst this; simp
      · have h0:=hok.born 0 es[0] (by simp)
        have:es.all (·.born ≥ last)=false:=by
          rw [Array.all_eq_false]
          exact ⟨0,by omega,by simp; omega⟩
        rw [this]; simp
  obtain ⟨w1,hw1,hrun⟩:=run_next (P:=P) (ty:=type) hw hwm hguard
  have hE1:Ext E w E w1∧EnvOk E w1∧HeapOk E H nx w1∧w1.heap=w.heap:=by
    rcases hw1 with rfl | rfl
    · exact ⟨Ext.refl _ _,hE,hh,rfl⟩
    · exact ⟨Ext.same rfl,hE.drew,hh.same rfl,rfl⟩
  obtain ⟨k1,k2,k3,k4⟩:=hE1
  have hexec:∀ v w',(Instr.next (.pointer (some ⟨k,0,none⟩)) false type).run P w=.ok v w'→(execOp a.eval ⟨dst,.next it false,type,pos,after,guard⟩).run P w=.ok (.value v) w':=by
    intro v w' h
    refine run_lift ?_
    show (Instr.next (a.eval it) false type).run P w=_
    rw [hvi]; exact h
  rcases hrun with ⟨hold,hrun⟩ | ⟨e,i,hei,hns,hrun⟩
  · refine ⟨.value (.tuple #[.bool false]),.tuple #[.bool false],w1,E,.tup [.bool false],H,nx,hexec _ _ hrun,.inl rfl,k1,k2,k3,hf,rel_tup1 (.bool _),h2 (fun i h0 hi=>?_)⟩
    have hlt:i < es.size:=by omega
    rcases Decidable.em (i ∈ seen) with h | h
    · exact h
    · exfalso
      have hb0:=hok.born i es[i] (by simp [hlt])
      have hmem:es[i] ∈ nextOld es seen n0:=by
        unfold nextOld
        rw [Array.mem_filter]
        refine ⟨Array.mem_filter.2 ⟨Array.getElem_mem hlt,?_⟩,by rw [hb0]; simpa using h0⟩
        rw [hb0]; simpa using h
      have:(nextOld es seen n0).size=0:=by simpa [Array.isEmpty] using hold
      rw [Array.eq_empty_of_size_eq_zero this] at hmem
      simp at hmem
  · have hlt:i < es.size:=(Array.getElem?_eq_some_iff.1 hei).1
    have hb0:=hok.born i e hei
    have hni:i ∉ seen:=by
      rw [hb0] at hns; simpa using hns
    have hw1k:w1.heap[k]?=some (.mapIter (some km) n0 seen.toArray last):=by rw [k4]; exact hw
    have hlp:∀ r T,E.lp b=some (r,T)→False:=by
      intro r T h
      obtain ⟨k',st,p,h1,h2,_⟩:=hE.lp b r T h
      rw [hs] at h1; cases h1
      rw [hw] at h2; cases h2
    obtain ⟨q1,q2,q3⟩:=sp_set k2 (k3.del b) hs hw1k (o':=.mapIter (some km) n0 (seen.toArray.push e.born) clock) rfl rfl (by intro ds; simp) (by intro ds; simp) (fun r T h=>(hlp r T h).elim) (fun x hx=>by rw [hdel_self] at hx; cases hx)
    have hH:hupd (hdel H b) b [.oiter m n0 (seen ++ [i])]=hupd H b [.oiter m n0 (seen ++ [i])]:=by
      funext y; unfold hupd hdel; split <;> rfl
    have q4:=q3.addSp (x:=.oiter m n0 (seen ++ [i])) (hh.dom _ _ hb) (q2.spm b k hs) hs ⟨km,clock,by
      rw [World.putObj_heap_same (Array.getElem?_eq_some_iff.1 hw1k).1,hb0]; simp,hsm,fun _=>by rw [hok.clk]; omega,by rw [hok.clk,hl,hkn]⟩
    rw [hH] at q4
    have hkr:=hok.key i (ks.getD i .undef) e (by simp [List.getD,show i < ks.length by omega]) hei
    have hvr:=hok.val i (vs.getD i .undef) e (by simp [List.getD,show i < vs.length by omega]) hei
    exact ⟨.value (.tuple #[.bool true,e.key,e.val]),.tuple #[.bool true,e.key,e.val],_,E,.tup [.bool true,ks.getD i .undef,vs.getD i .undef],_,nx,hexec _ _ hrun,.inl rfl,k1.trans q1,q2,q4,hf,
      rel_tup3 (.bool _) (hkr.ext (k1.trans q1)) (hvr.ext (k1.trans q1)),h1 i (by omega) hni⟩
theorem rel_tup2' {E:Env} {w:World} {x y:AV} {u v:Value} (h1:Rel E w x u) (h2:Rel E w y v):Rel E w (.tup [x,y]) (.tuple #[u,v]):=by
  refine Rel.tup [x,y] [u,v] rfl (fun i a b ha hb=>?_)
  match i with
  | 0=>cases ha; cases hb; exact h1
  | 1=>cases ha; cases hb; exact h2
  | i + 2=>cases ha
theorem aspec_mentry {P:Program} {it:Operand} {T:Tm} {H:Hp} {nx b m n0 i:Nat} {K:AV→Hp→Nat→Prop} {ks vs:List AV} {seen:List Nat} (hi:ev T it=.itr b) (hb:H b=some [.oiter m n0 seen]) (hm:H m=some [.omap ks vs])
    (hkn:ks.length=n0) (hl:seen.getLast?=some i) (hlt:i < ks.length) (h:K (.tup [ks.getD i .undef,vs.getD i .undef]) H nx):aspec P (.entry it) T H nx K:=by
  refine aspec_of_run (by intro c; simp) ?_
  rintro E w a ⟨dst,op,type,pos,after,guard⟩ ho hE hh hf htm
  simp only at ho
  subst ho
  have hir:=htm it (by simp [Op.operands,Call.operands])
  rw [hi] at hir
  generalize hvi:a.eval it=vi at hir
  cases hir with
  | itr _ k hs =>
  obtain ⟨km,last,hw,hsm,hlast,hln⟩:=iter_at hh hb hs
  obtain ⟨es,clock,hwm,hok⟩:=map_at hh hm hsm
  have hlen:=hok.len
  have hlen':=hok.len'
  have hie:i < es.size:=by omega
  have hei:es[i]?=some es[i]:=by simp [hie]
  have hborn:=hok.born i es[i] hei
  have hback:seen.toArray.back?=some i:=by rw [List.back?_toArray,hl]
  have hfind:es.find? (·.born == i)=some es[i]:=by
    cases hf:es.find? (·.born == i) with
    | none =>
      have:=Array.find?_eq_none.1 hf es[i] (Array.getElem_mem hie)
      rw [hborn] at this
      simp at this
    | some e =>
      have h1:=Array.find?_some hf
      have h2:=Array.mem_of_find?_eq_some hf
      obtain ⟨j,hj,rfl⟩:=Array.mem_iff_getElem.1 h2
      have h3:=hok.born j es[j] (by simp [hj])
      simp only [h3,beq_iff_eq] at h1
      subst h1
      rfl
  have hclk:(clock != last)=false:=by
    have:clock=last:=by rw [hok.clk,hlen,hkn,hln]
    simp [this]
  have hkr:=hok.key i (ks.getD i .undef) es[i] (by simp [List.getD,hlt]) hei
  have hvr:=hok.val i (vs.getD i .undef) es[i] (by simp [List.getD,show i < vs.length by omega]) hei
  refine ⟨.value (.tuple #[es[i].key,es[i].val]),.tuple #[es[i].key,es[i].val],w,E,.tup [ks.getD i .undef,vs.getD i .undef],H,nx,?_,.inl rfl,Ext.refl _ _,hE,hh,hf,rel_tup2' hkr hvr,h⟩
  refine run_lift ?_
  show (Instr.entry (a.eval it)).run P w=_
  rw [hvi]
  unfold Instr.entry
  simp only [Sem.run_bind,run_getObj' hw rfl,run_getObj' hwm rfl,Result.andThen_ok,hback,hclk,hfind,Bool.false_eq_true,if_false,Sem.run_pure]
def trunc (n:Nat):AV→AV
  | .sl sz l=>.sl sz (l.take n)
  | .msl b m sz off _=>.msl b m sz off n
  | x=>x
def alenN:AV→Option Nat
  | .sl _ l=>some l.length
  | .msl _ _ _ _ len=>some len
  | .esl=>some 0
  | _=>none
theorem trunc_sound {P:Program} {E:Env} {H:Hp} {nx:Nat} {w:World} (hh:HeapOk E H nx w) {x:AV} {v:Value} (hx:Rel E w x v) {n k sz j:Nat} {new:List AV} (hk:alenN x=some k) (hn:n ≤ k) (hn0:0 < n) (h:asrc sz H (trunc n x)=some (j,new)) :
    (Builtin.lenOf v).run P w=.ok k w∧new.length=n * sz∧∃ vals:List Value,(Builtin.firstCells sz n v).run P w=.ok vals.toArray w∧vals.length=new.length∧∀ (i:Nat) (a:AV) (y:Value),new[i]?=some a→vals[i]?=some y→Rel E w a y:=by
  cases hx with
  | sl szz elems blk o cap vals him hlen hsz hcell hr =>
    cases hk
    have htl:(elems.take n).length=n:=by simp; omega
    have hx':Rel E w (.sl szz (elems.take n)) (.slice (some ⟨blk,o,none⟩) (elems.take n).length cap) :=
      Rel.sl szz (elems.take n) blk o cap vals him (by omega) (fun y hy=>hsz y (List.mem_of_mem_take hy)) (fun i hi=>hcell i (Nat.lt_of_lt_of_le hi (Nat.mul_le_mul_right _ (by omega)))) (fun i j y c hy hc=>by
        rw [List.getElem?_take] at hy
        split at hy
        · exact hr i j y c hy hc
        · cases hy)
    obtain ⟨h1,h2,vs,h3,h4,h5⟩:=asrc_sound (P:=P) hh hx' h
    have hj:j=n:=by
      have:=h1
      simp only [Builtin.lenOf,Sem.run_pure] at this
      injection this with e; omega
    subst hj
    exact ⟨rfl,h2,vs,h3,h4,h5⟩
  | msl b m szz off len blk bsz cap hm hl hc hnn =>
    cases hk
    have hx':Rel E w (.msl b m szz off n) (.slice (some ⟨blk,off,none⟩) n cap):=.msl _ _ _ _ _ _ _ _ hm (by omega) hc hnn
    obtain ⟨h1,h2,vs,h3,h4,h5⟩:=asrc_sound (P:=P) hh hx' h
    have hj:j=n:=by
      have:=h1
      simp only [Builtin.lenOf,Sem.run_pure] at this
      injection this with e; exact e.symm
    subst hj
    exact ⟨rfl,h2,vs,h3,h4,h5⟩
  | slnil=>cases hk; simp at hn; omega
  | slempty=>cases hk; simp at hn; omega
  | msl0=>cases hk; omega
  | eslnil=>cases hk; omega
  | esl=>cases hk; omega
  | _=>cases hk
theorem lenOf_sound {P:Program} {E:Env} {w:World} {x:AV} {v:Value} (hx:Rel E w x v) {k:Nat} (hk:alenN x=some k):(Builtin.lenOf v).run P w=.ok k w∧∃ a c,v=.slice a k c:=by
  cases hx with
  | sl=>cases hk; exact ⟨rfl,_,_,rfl⟩
  | msl=>cases hk; exact ⟨rfl,_,_,rfl⟩
  | slnil=>cases hk; exact ⟨rfl,_,_,rfl⟩
  | slempty=>cases hk; exact ⟨rfl,_,_,rfl⟩
  | msl0 _ _ _ h=>cases hk; rcases h with rfl | ⟨_,rfl⟩ <;> exact ⟨rfl,_,_,rfl⟩
  | eslnil=>cases hk; exact ⟨rfl,_,_,rfl⟩
  | esl=>cases hk; exact ⟨rfl,_,_,rfl⟩
  | _=>cases hk
theorem firstCells_zero {P:Program} {w:World} {sz k c:Nat} {a:Option Addr}:(Builtin.firstCells sz 0 (.slice a k c)).run P w=.ok #[] w:=by
  cases a <;> simp [Builtin.firstCells,loadCells,loadCellsFrom]
def acopy (sz:Nat) (d s:AV) (H:Hp):Option (Nat × Hp) :=
  match alenN d,alenN s with
  | some ld,some ls =>
    if min ls ld=0 then some (0,H) else
    match d with
    | .msl b n sz' off _=>match H b,asrc sz H (trunc (min ls ld) s) with
      | some cs,some (_,new)=>if cs.length=n∧sz'=sz∧off + min ls ld * sz ≤ n∧new.all AV.one=true then some (min ls ld,hupd H b (lput cs off new)) else none
      | _,_=>none
    | _=>none
  | _,_=>none
theorem aspec_copy {P:Program} {tD tS e:TypeId} {d s:Operand} {T:Tm} {H:Hp} {nx:Nat} {K:AV→Hp→Nat→Prop} {n:Nat} {H':Hp} (ht:telem P tD=some e) (hte:tok P e=true)
    (h:acopy (P.cellsOf e) (ev T d) (ev T s) H=some (n,H')) (hk:K (.int .i64 n) H' nx):aspec P (.call { callee:=.builtin .copy,args:=#[d,s],argTypes:=#[tD,tS] }) T H nx K:=by
  refine aspec_of_run (by intro c; simp) ?_
  rintro E w a ⟨dst,op,type,pos,after,guard⟩ ho hE hh hf htm
  simp only at ho
  subst ho
  have hdr:=htm d (by simp [Op.operands,Call.operands])
  have hsr:=htm s (by simp [Op.operands,Call.operands])
  have hu:=telem_eq ht
  have hexec:∀ v w',(Builtin.copy_ #[tD,tS] type #[a.eval d,a.eval s]).run P w=.ok v w'→(execOp a.eval ⟨dst,.call { callee:=.builtin .copy,args:=#[d,s],argTypes:=#[tD,tS] },type,pos,after,guard⟩).run P w=.ok (.value v) w':=by
    intro v w' h
    simp only [execOp,resolve,invoke,builtin,Sem.run_bind,Sem.run_pure,Result.andThen_ok]
    simp [h]
  unfold acopy at h
  split at h
  case h_2=>cases h
  rename_i ld ls hld hls
  obtain ⟨_,ad,cd,hvd⟩:=lenOf_sound (P:=P) hdr hld
  obtain ⟨hls',as,cs',hvs⟩:=lenOf_sound (P:=P) hsr hls
  split at h
  case isTrue h0 =>
    cases h
    have hrun:(Builtin.copy_ #[tD,tS] type #[a.eval d,a.eval s]).run P w=.ok (goInt 0) w:=by
      have h0':Nat.min ls ld=0:=h0
      unfold Builtin.copy_
      simp only [List.getElem?_toArray,List.getElem?_cons_zero,List.getElem?_cons_succ,Sem.run_bind,run_underlying hu,Result.andThen_ok,hvd]
      simp only [hls',Result.andThen_ok,h0',run_sizeOf' hte]
      rw [hvs]
      simp only [firstCells_zero,Result.andThen_ok]
      cases ad <;> simp [storeCells]
    exact ⟨.value (goInt 0),goInt 0,w,E,_,H,nx,hexec _ _ hrun,.inl rfl,Ext.refl _ _,hE,hh,hf,.int _ _,hk⟩
  case isFalse h0 =>
    split at h
    case h_2=>cases h
    rename_i b n' sz' off len hd
    split at h
    case h_2=>cases h
    rename_i cs j new hb hsrc
    split at h
    case isFalse=>cases h
    case isTrue hc =>
    obtain ⟨rfl,rfl,hfit,hone⟩:=hc
    cases h
    have hlen:len=ld:=by rw [hd] at hld; cases hld; rfl
    subst hlen
    obtain ⟨_,hnl,vals,h3,h4,h5⟩:=trunc_sound (P:=P) hh hsr hls (Nat.min_le_left _ _) (by omega) hsrc
    have hones:∀ y ∈ vals,y.oneCell'=true:=by
      intro y hy
      obtain ⟨i,hi⟩:=List.getElem?_of_mem hy
      have hlt:i < new.length:=by have:=(List.getElem?_eq_some_iff.1 hi).1; omega
      exact (h5 i new[i] y (by simp [hlt]) hi).one (List.all_eq_true.1 hone _ (List.getElem_mem hlt))
    rw [hd] at hdr
    generalize hnn:cs.length=nn at hdr
    generalize hvd':a.eval d=vd at hdr
    cases hdr with
    | msl0=>omega
    | msl _ _ _ _ _ blk bsz cap hm hl hcp hcn =>
    subst hnn
    obtain ⟨w',E',g1,g2,g3,g4,g5,g6,g7⟩:=write_sound (P:=P) hE hh (off:=off) hb hm (new:=new) (nv:=vals) (by rw [hnl]; exact hfit) h4 h5 hones
    have hrun:(Builtin.copy_ #[tD,tS] type #[a.eval d,a.eval s]).run P w=.ok (goInt ((min ls len:Nat):Int)) w':=by
      have e:Nat.min ls len=min ls len:=rfl
      unfold Builtin.copy_
      simp only [List.getElem?_toArray,List.getElem?_cons_zero,List.getElem?_cons_succ,Sem.run_bind,run_underlying hu,Result.andThen_ok,hvd',hls',e,run_sizeOf' hte,h3,g1,Sem.run_pure]
    exact ⟨.value (goInt ((min ls len:Nat):Int)),goInt ((min ls len:Nat):Int),w',E',.int .i64 ((min ls len:Nat):Int),_,nx,hexec _ _ hrun,.inl rfl,g2,g3,g4,hf.of (Nat.le_refl _) (fun b' n hb'=>g5 b' n (by have:=hh.dom _ _ hb; omega)) g6 g7,.int _ _,hk⟩
def aclear (sz:Nat) (z x:AV) (H:Hp):Option Hp:=match x with
  | .msl b n sz' off len=>if len=0 then some H else match H b with
    | some cs=>if cs.length=n∧sz'=sz∧z.flat=true∧z.cells.length=sz∧off + len * sz ≤ n then some (hupd H b (lput cs off (zcells z len))) else none
    | none=>none
  | _=>none
theorem aspec_clear {P:Program} {tX e:TypeId} {x:Operand} {T:Tm} {H:Hp} {nx:Nat} {K:AV→Hp→Nat→Prop} {z:AV} {H':Hp} (ht:telem P tX=some e) (hz:azero P e=some z)
    (h:aclear (P.cellsOf e) z (ev T x) H=some H') (hpos:0 < P.cellsOf e) (hk:K (.tup []) H' nx):aspec P (.call { callee:=.builtin .clear,args:=#[x],argTypes:=#[tX] }) T H nx K:=by
  refine aspec_of_run (by intro c; simp) ?_
  rintro E w a ⟨dst,op,type,pos,after,guard⟩ ho hE hh hf htm
  simp only at ho
  subst ho
  have hxr:=htm x (by simp [Op.operands,Call.operands])
  have hu:=telem_eq ht
  have hexec:∀ v w',(Builtin.clear_ #[tX] type #[a.eval x]).run P w=.ok v w'→(execOp a.eval ⟨dst,.call { callee:=.builtin .clear,args:=#[x],argTypes:=#[tX] },type,pos,after,guard⟩).run P w=.ok (.value v) w':=by
    intro v w' h
    simp only [execOp,resolve,invoke,builtin,Sem.run_bind,Sem.run_pure,Result.andThen_ok]
    simp [h]
  unfold aclear at h
  split at h
  case h_2=>cases h
  rename_i b n sz' off len hx
  rw [hx] at hxr
  split at h
  case isTrue h0 =>
    cases h
    subst h0
    have hrun:(Builtin.clear_ #[tX] type #[a.eval x]).run P w=.ok (.tuple #[]) w:=by
      generalize a.eval x=vx at hxr
      unfold Builtin.clear_
      simp only [List.getElem?_toArray,List.getElem?_cons_zero,Sem.run_bind,run_underlying hu,Result.andThen_ok]
      cases hxr with
      | msl=>rfl
      | msl0 _ _ _ hv=>rcases hv with rfl | ⟨_,rfl⟩ <;> rfl
    exact ⟨.value (.tuple #[]),.tuple #[],w,E,.tup [],H,nx,hexec _ _ hrun,.inl rfl,Ext.refl _ _,hE,hh,hf,undef_rel _ _,hk⟩
  case isFalse h0 =>
    split at h
    case h_2=>cases h
    rename_i cs hb
    split at h
    case isFalse=>cases h
    case isTrue hc =>
    obtain ⟨rfl,rfl,hfl,hzl,hfit⟩:=hc
    cases h
    generalize hnn:cs.length=nn at hxr
    generalize hvx:a.eval x=vx at hxr
    cases hxr with
    | msl0=>omega
    | msl _ _ _ _ _ blk bsz cap hm hl hcp hcn =>
    subst hnn
    obtain ⟨vz,hvz,hrz⟩:=azero_sound hz
    obtain ⟨k1,k2,k3⟩:=(hrz E w).cells hfl
    have hvs : vz.cells.size = P.cellsOf e := by have : vz.cells.toList.length = vz.cells.size := by simp
                                                 omega
    have hzc:(zcells z len).length=len * P.cellsOf e:=by simp [zcells,hzl]
    have hzz:(Builtin.zeroCells vz.cells len).size=len * P.cellsOf e:=by simp [Builtin.zeroCells,hvs]
    have hget:∀ j (y:Value),(Builtin.zeroCells vz.cells len)[j]?=some y→j < len * P.cellsOf e∧vz.cells[j % P.cellsOf e]?=some y:=by
      intro j y hy
      have hj:j < len * P.cellsOf e:=by rw [← hzz]; exact (Array.getElem?_eq_some_iff.1 hy).1
      refine ⟨hj,?_⟩
      have hlt:j % P.cellsOf e < vz.cells.size:=by rw [hvs]; exact Nat.mod_lt _ hpos
      unfold Builtin.zeroCells at hy
      rw [hvs,Array.getElem?_map,Array.getElem?_range,if_pos hj] at hy
      simp only [Option.map_some] at hy
      rw [getElem!_pos vz.cells _ hlt] at hy
      rw [← hy]; simp [hlt]
    obtain ⟨w',E',g1,g2,g3,g4,g5,g6,g7⟩:=write_sound (P:=P) hE hh (off:=off) hb hm (new:=zcells z len) (nv:=(Builtin.zeroCells vz.cells len).toList) (by rw [hzc]; exact hfit) (by simp [hzz,hzc]) (fun j p y hp hy=>by
      obtain ⟨hj,hvj⟩:=hget j y (by simpa using hy)
      unfold zcells at hp
      rw [flatten_replicate_get _ _ (by rw [hzl]; exact hj),hzl] at hp
      exact k2 _ _ _ hp (by simpa using hvj)) (fun y hy=>by
      obtain ⟨j,hj⟩:=List.getElem?_of_mem hy
      obtain ⟨_,hvj⟩:=hget j y (by simpa using hj)
      exact k3 y (by simpa using Array.mem_of_getElem? hvj))
    have hrun:(Builtin.clear_ #[tX] type #[a.eval x]).run P w=.ok (.tuple #[]) w':=by
      cases len with
      | zero=>exact absurd rfl h0
      | succ len =>
      unfold Builtin.clear_
      simp only [List.getElem?_toArray,List.getElem?_cons_zero,Sem.run_bind,run_underlying hu,Result.andThen_ok,hvx,hvz,g1,Sem.run_pure]
    exact ⟨.value (.tuple #[]),.tuple #[],w',E',.tup [],_,nx,hexec _ _ hrun,.inl rfl,g2,g3,g4,hf.of (Nat.le_refl _) (fun b' n hb'=>g5 b' n (by have:=hh.dom _ _ hb; omega)) g6 g7,undef_rel _ _,hk⟩
theorem aspec_insert {P:Program} {t:TypeId} {m k x:Operand} {T:Tm} {H:Hp} {nx:Nat} {K:AV→Hp→Nat→Prop} (h:aspec P (.mapUpdate t m k x) T H nx K):aspec P (.insert t m k x) T H nx K:=by
  refine ⟨by intro c; simp,?_⟩
  rintro rr E w a ⟨dst,op,type,pos,after,guard⟩ next Q ho hE hh hf htm hn
  simp only at ho
  subst ho
  have:=h.2 rr E w a ⟨dst,.mapUpdate t m k x,type,pos,after,guard⟩ next Q rfl hE hh hf htm hn
  have e:execOp a.eval ⟨dst,.insert t m k x,type,pos,after,guard⟩=execOp a.eval ⟨dst,.mapUpdate t m k x,type,pos,after,guard⟩:=rfl
  rw [e]
  exact this
theorem slice_some {E:Env} {w:World} {x:AV} {v:Value} (hx:Rel E w x v) {k:Nat} (hk:alenN x=some k):∃ a c,v=.slice a k c∧(0 < k→∃ b,a=some b):=by
  cases hx with
  | sl=>cases hk; exact ⟨_,_,rfl,fun _=>⟨_,rfl⟩⟩
  | msl=>cases hk; exact ⟨_,_,rfl,fun _=>⟨_,rfl⟩⟩
  | slnil=>cases hk; exact ⟨_,_,rfl,fun h=>by simp at h⟩
  | slempty=>cases hk; exact ⟨_,_,rfl,fun h=>by simp at h⟩
  | msl0 _ _ _ h=>cases hk; rcases h with rfl | ⟨_,rfl⟩ <;> exact ⟨_,_,rfl,fun h=>by omega⟩
  | eslnil=>cases hk; exact ⟨_,_,rfl,fun h=>by omega⟩
  | esl=>cases hk; exact ⟨_,_,rfl,fun h=>by omega⟩
  | _=>cases hk
def snilRes (neg:Bool) (k:Nat) (K:AV→Prop):Prop:=(0 < k→K (.bool neg))∧(k=0→K (.bool true)∧K (.bool false))
theorem aspec_snil {P:Program} {t e ty:TypeId} {x:Operand} {neg:Bool} {T:Tm} {H:Hp} {nx:Nat} {K:AV→Hp→Nat→Prop} {k:Nat} (ht:telem P t=some e) (hk:alenN (ev T x)=some k)
    (h:snilRes neg k fun r=>K r H nx):aspec P (.binOp (if neg=true then .neq else .eql) t x (.const (.slice none 0 0)) ty) T H nx K:=by
  refine aspec_of_run (by intro c; simp) ?_
  rintro E w a ⟨dst,op,type,pos,after,guard⟩ ho hE hh hf htm
  simp only at ho
  subst ho
  have hxr:=htm x (by simp [Op.operands,Call.operands])
  obtain ⟨ad,c,hv,hsome⟩:=slice_some hxr hk
  have hu:=telem_eq ht
  have he0:∀ d,(Op.equalIn (d + 1) t (.slice ad k c) (.slice none 0 0)).run P w=.ok ad.isNone w:=by
    intro d
    simp only [Op.equalIn,Sem.run_bind,run_underlying hu,Result.andThen_ok]
    cases ad <;> rfl
  have he:=he0 9999
  have hrun:∀ op,op=(if neg=true then BinOp.neq else BinOp.eql)→(do eqGuard op t x (.const (.slice none 0 0)) (.slice ad k c) (.slice none 0 0); binOp op t (.slice ad k c) (.slice none 0 0):Sem Value).run P w=.ok (.bool (if neg=true then !ad.isNone else ad.isNone)) w:=by
    intro op hop
    subst hop
    rw [Sem.run_bind,run_eqGuard (by simp) (by simp)]
    simp only [Result.andThen_ok]
    cases neg with
    | true=>simp only [if_true,binOp,Op.equal,Op.maxDepth,Sem.run_bind,he,Result.andThen_ok]; rfl
    | false=>simp only [Bool.false_eq_true,if_false,binOp,Op.equal,Op.maxDepth,Sem.run_bind,he,Result.andThen_ok]; rfl
  have hexec:(execOp a.eval ⟨dst,.binOp (if neg=true then .neq else .eql) t x (.const (.slice none 0 0)) ty,type,pos,after,guard⟩).run P w=.ok (.value (.bool (if neg=true then !ad.isNone else ad.isNone))) w:=by
    refine run_lift ?_
    show (do eqGuard _ t x (.const (.slice none 0 0)) (a.eval x) (.slice none 0 0); binOp _ t (a.eval x) (.slice none 0 0):Sem Value).run P w=_
    rw [hv]
    exact hrun _ rfl
  refine ⟨_,.bool (if neg=true then !ad.isNone else ad.isNone),w,E,.bool (if neg=true then !ad.isNone else ad.isNone),H,nx,hexec,.inl rfl,Ext.refl _ _,hE,hh,hf,.bool _,?_⟩
  by_cases hk0:k=0
  · obtain ⟨h1,h2⟩:=h.2 hk0
    cases neg <;> cases ad <;> first | exact h1 | exact h2
  · obtain ⟨b,rfl⟩:=hsome (by omega)
    have:=h.1 (by omega)
    cases neg <;> exact this
end Go.Abs
namespace Go.Abs
open Go.RowKit
def encB (b:UInt8):AV:=.int .u8 (b.toNat:Int)
theorem aspec_s2b {P:Program} {s d e:TypeId} {x:Operand} {T:Tm} {H:Hp} {nx:Nat} {K:AV→Hp→Nat→Prop} {bs:ByteArray} (hs:P.underlying s=some .string) (hd:P.underlying d=some (.slice e)) (he:P.underlying e=some (.int .u8)) (hx:ev T x=.str bs)
    (h0:bs.size=0→K (.sl 1 []) H nx) (h1:bs.size ≠ 0→K (.msl nx bs.size 1 0 bs.size) (hupd H nx (bs.data.toList.map encB)) (nx + 1)):aspec P (.convert s d x) T H nx K:=by
  refine aspec_of_run (by intro c; simp) ?_
  rintro E w a ⟨dst,op,type,pos,after,guard⟩ ho hE hh hf htm
  simp only at ho
  subst ho
  have hxr:=htm x (by simp [Op.operands,Call.operands])
  rw [hx] at hxr
  generalize hv:a.eval x=vx at hxr
  cases hxr
  have hrun:=run_bytes_of_string (P:=P) w s d e bs hs hd he
  have hexec:(execOp a.eval ⟨dst,.convert s d x,type,pos,after,guard⟩).run P w=.ok (.value (.slice (some ⟨w.heap.size,0,none⟩) bs.size (grownCap w bs.size 0 e))) (w.drew.alloc (.cells (bytesRow bs (grownCap w bs.size 0 e)) e ((bytesRow bs (grownCap w bs.size 0 e)).size,(bytesRow bs (grownCap w bs.size 0 e)).size + 1))):=by
    unfold execOp
    simp only [hv,Sem.run_bind,hrun,Result.andThen_ok,Sem.run_pure]
  have hge:=grownCap_ge w bs.size 0 e
  generalize hcap:grownCap w bs.size 0 e=cap at *
  have hdr:w.drew.heap=w.heap:=rfl
  have hEd:=hE.drew
  have hhd:=hh.same (w':=w.drew) hdr
  have hext0:Ext E w E w.drew:=Ext.same hdr
  have hsz:(bytesRow bs cap).size=cap:=by
    have:bs.data.size=bs.size:=rfl
    simp [bytesRow]; omega
  by_cases hz:bs.size=0
  · refine ⟨_,_,_,E,.sl 1 [],H,nx,hexec,.inl rfl,hext0.trans (Ext.alloc E w.drew _ hEd),hEd.alloc hhd.size _,hhd.alloc hEd _,hf,?_,h0 hz⟩
    rw [hz]
    exact .slempty _ _ _
  · have hlen:(bs.data.toList.map encB).length=bs.size:=by simp
    obtain ⟨E',q1,q2,q3,q4,q5,q6,q7,q8⟩:=hhd.placeZ hEd (b:=nx) (nx':=nx + 1) (cs':=bs.data.toList.map encB) (Nat.lt_succ_self _) (Nat.le_succ _) (fun m y hm=>by rw [(hf nx (Nat.le_refl _)).1] at hm; cases hm) (hf nx (Nat.le_refl _)).2.1
      (bytesRow bs cap) e ((bytesRow bs cap).size,(bytesRow bs cap).size + 1) (fun j hj h=>by simp only at h; omega) (by rw [hlen,hsz]; exact hge) (fun i y hi=>by
        rw [List.getElem?_map] at hi
        cases hb:bs.data.toList[i]? with
        | none=>rw [hb] at hi; cases hi
        | some b =>
          rw [hb] at hi; cases hi
          have hi':i < bs.data.size:=by
            have:=(List.getElem?_eq_some_iff.1 hb).1
            simpa using this
          refine ⟨_,bytesRow_at bs cap i hi',rfl,?_⟩
          have:bs.data[i]=b:=by
            have:=(List.getElem?_eq_some_iff.1 hb).2
            simpa using this
          rw [this]
          exact .int _ _)
    refine ⟨_,_,_,E',.msl nx bs.size 1 0 bs.size,_,nx + 1,hexec,.inl rfl,hext0.trans q1,q2,q3,hf.of (Nat.le_succ _) (fun b n hb=>q6 b n (by omega)) q7 q8,?_,h1 hz⟩
    rw [hlen,hsz] at q4
    exact .msl nx bs.size 1 0 bs.size w.heap.size cap cap q4 hge (by omega) (by omega)
theorem bytes_cells {E:Env} {H:Hp} {nx n:Nat} {w:World} (hh:HeapOk E H nx w) {x:AV} {v:Value} (hr:Rel E w x v) {bs:List UInt8} (h:asrc 1 H x=some (n,bs.map encB)) :
    (bs=[]∧∃ c,v=.slice none 0 c) ∨ ∃ (a:Addr) (cap:Nat),v=.slice (some a) bs.length cap∧∀ (j:Nat) (hj:j < bs.length),w.cell? (a.add j)=some (.int .u8 (bs[j].toNat:Int)):=by
  have hnil:∀ {bs:List UInt8},[]=bs.map encB→bs=[]:=fun h=>by
    rw [eq_comm,List.map_eq_nil_iff] at h; exact h
  cases hr with
  | eslnil =>
    simp only [asrc,Option.some.injEq,Prod.mk.injEq] at h
    exact .inl ⟨hnil h.2,0,rfl⟩
  | esl a =>
    simp only [asrc,Option.some.injEq,Prod.mk.injEq] at h
    have:=hnil h.2
    subst this
    exact .inr ⟨_,_,rfl,fun j hj=>absurd hj (by simp)⟩
  | slnil sz =>
    simp only [asrc,or_true,if_true,Option.some.injEq,Prod.mk.injEq,List.flatMap_nil] at h
    exact .inl ⟨hnil h.2,0,rfl⟩
  | slempty sz a cap =>
    simp only [asrc,or_true,if_true,Option.some.injEq,Prod.mk.injEq,List.flatMap_nil] at h
    have:=hnil h.2
    subst this
    exact .inr ⟨_,_,rfl,fun j hj=>absurd hj (by simp)⟩
  | sl sz elems blk o cap vals hi hlen hsz hc hr' =>
    simp only [asrc] at h
    split at h
    case isFalse=>cases h
    case isTrue hsz1 =>
    simp only [Option.some.injEq,Prod.mk.injEq] at h
    obtain ⟨rfl,h2⟩:=h
    by_cases he:elems=[]
    · subst he
      have:=hnil h2
      subst this
      exact .inr ⟨_,_,rfl,fun j hj=>absurd hj (by simp)⟩
    have hs1:sz=1:=hsz1.resolve_right he
    subst hs1
    obtain ⟨f1,f2⟩:=flatMap_cells_get elems hsz
    have hll:elems.length=bs.length:=by rw [h2] at f1; simpa using f1.symm
    refine .inr ⟨⟨blk,o,none⟩,cap,by rw [hll],fun j hj=>?_⟩
    rw [addr_add,hc j (by omega)]
    have hg:(elems.flatMap AV.cells)[j]?=some (encB bs[j]):=by rw [h2]; simp [hj]
    obtain ⟨i,k,y,e1,e2,e3,e4⟩:=f2 j _ hg
    have hk:k=0:=by omega
    subst hk
    have:=hr' i 0 y _ e3 e4
    rw [← e1] at this
    unfold encB at this
    generalize vals j=u at this
    cases this; rfl
  | msl b m sz off len blk bsz cap hm hl hcap hn =>
    simp only [asrc] at h
    split at h
    · rename_i h0
      subst h0
      simp only [Option.some.injEq,Prod.mk.injEq] at h
      have:=hnil h.2
      subst this
      exact .inr ⟨_,_,rfl,fun j hj=>absurd hj (by simp)⟩
    · split at h
      · rename_i cs hb
        split at h
        case isFalse=>cases h
        case isTrue hc =>
        obtain ⟨hc1,rfl,hc3⟩:=hc
        simp only [Option.some.injEq,Prod.mk.injEq] at h
        obtain ⟨rfl,h2⟩:=h
        have hbl:bs.length=len:=by
          have:=congrArg List.length h2
          simp at this; omega
        rcases hh.box b cs hb with hno | ⟨blk',sz',hx⟩
        · rw [hc1,hm] at hno; cases hno
        · have:=hx.mu
          rw [hc1,hm] at this; cases this
          obtain ⟨vals,ty,fz,k1,kz,k2,k3,k4⟩:=hx.cells
          refine .inr ⟨⟨blk,off,none⟩,cap,by rw [hbl],fun j hj=>?_⟩
          have hg:cs[off + j]?=some (encB bs[j]):=by
            have e:((cs.drop off).take (len * 1))[j]?=some (encB bs[j]):=by rw [h2]; simp [hj]
            rw [List.getElem?_take] at e
            split at e
            · rw [List.getElem?_drop] at e; exact e
            · cases e
          obtain ⟨v,e1,e2,e3⟩:=k4 _ _ hg
          rw [addr_add]
          unfold encB at e3
          cases e3
          exact cell?_of_heap k1 e1
      · cases h
  | msl0 b sz v hv =>
    simp only [asrc,if_true,Option.some.injEq,Prod.mk.injEq] at h
    have:=hnil h.2
    subst this
    rcases hv with rfl | ⟨blk,o,rfl⟩
    · exact .inl ⟨rfl,0,rfl⟩
    · exact .inr ⟨_,_,rfl,fun j hj=>absurd hj (by simp)⟩
  | _=>simp [asrc] at h
theorem aspec_b2s {P:Program} {s d e:TypeId} {x:Operand} {T:Tm} {H:Hp} {nx n:Nat} {K:AV→Hp→Nat→Prop} {bs:List UInt8} (hs:P.underlying s=some (.slice e)) (he:P.underlying e=some (.int .u8)) (hd:P.underlying d=some .string) (hx:asrc 1 H (ev T x)=some (n,bs.map encB))
    (hk:K (.str ⟨bs.toArray⟩) H nx):aspec P (.convert s d x) T H nx K:=by
  refine aspec_of_run (by intro c; simp) ?_
  rintro E w a ⟨dst,op,type,pos,after,guard⟩ ho hE hh hf htm
  simp only at ho
  subst ho
  have hxr:=htm x (by simp [Op.operands,Call.operands])
  have hrun:(convert s d (a.eval x)).run P w=.ok (.string ⟨bs.toArray⟩) w:=by
    rcases bytes_cells hh hxr hx with ⟨rfl,c,hv⟩ | ⟨ad,cap,hv,hc⟩
    · rw [hv,run_convert_bytes_nil (w:=w) s e hs he 0 c d hd]; rfl
    · rw [hv]; exact run_convert_bytes_back w s d e ad cap bs hs he hd hc
  refine ⟨.value (.string ⟨bs.toArray⟩),_,w,E,_,H,nx,?_,.inl rfl,Ext.refl _ _,hE,hh,hf,.str _,hk⟩
  unfold execOp
  simp only [Sem.run_bind,hrun,Result.andThen_ok,Sem.run_pure]
theorem aspec_bcall {P:Program} {f:Operand} {args:Array Operand} {ts:Array TypeId} {T:Tm} {H:Hp} {nx:Nat} {K:AV→Hp→Nat→Prop} {g:FuncId} {fs:List AV} (hf:ev T f=.bfn g fs) (h:Fn P g (fs ++ args.toList.map (ev T)) H nx K) :
    aspec P (.call { callee:=.value f,args:=args,argTypes:=ts }) T H nx K:=by
  refine ⟨by intro c; simp,?_⟩
  rintro rr E w a ⟨dst,op,type,pos,after,guard⟩ next Q ho hE hh hfr ht hn
  simp only at ho
  subst ho
  have hr:=ht f (by simp [Op.operands,Call.operands])
  rw [hf] at hr
  generalize hv:a.eval f=vf at hr
  cases hr with
  | bfn _ _ cv hl hcr =>
  have hargs:RelL E w (fs ++ args.toList.map (ev T)) (cv ++ args.toList.map a.eval):=by
    have ha:=relL_ops (E:=E) (w:=w) (T:=T) (a:=a) args.toList (fun x hx=>ht x (by simp only [Op.operands,Call.operands]; exact Array.mem_append.2 (.inr (by simpa using hx))))
    refine ⟨by simp [hl],fun j x y hx hy=>?_⟩
    rw [List.getElem?_append] at hx hy
    rw [hl] at hy
    split at hx
    · rename_i hlt
      rw [if_pos hlt] at hy
      exact hcr _ _ _ hx hy
    · rename_i hlt
      rw [if_neg hlt] at hy
      exact ha.2 _ _ _ hx hy
  have hcalls:=h.2 E w _ hE hh hfr hargs
  have hrun:(execOp a.eval ⟨dst,.call { callee:=.value f,args:=args,argTypes:=ts },type,pos,after,guard⟩).run P w=.ok (.enter g (cv ++ args.toList.map a.eval).toArray) w:=by
    unfold execOp
    simp only [resolve,hv,Deferred.ofValue,invoke,Sem.run_bind,Sem.run_pure,Result.andThen_ok]
    have:cv.toArray ++ args.map a.eval ++ #[]=(cv ++ args.toList.map a.eval).toArray:=by
      rw [arr_map]; simp
    rw [this]
    exact run_callFunc h.1 _ w
  rw [hrun,Oper.uponIn_enter]
  refine ⟨(fun h=>by cases h),?_⟩
  refine (callsIn_FW hcalls).mono ?_
  rintro e w' ⟨v,E',r,H',nx',rfl,he,hE',hH',hf',hrel,hk⟩
  exact hn E' H' nx' r v w' he hE' hH' hf' hrel hk
end Go.Abs
namespace Go.Abs
open Go.RowKit
inductive Opd where
  | t (n:Nat)
  | c (v:AV)
  deriving Inhabited
def Opd.of:Operand→Opd
  | .tmp n=>.t n
  | x=>.c (ev (fun _=>.undef) x)
def ov (T:Tm):Opd→AV
  | .t n=>T n
  | .c v=>v
theorem ov_of {T:Tm} {x:Operand}:ov T (.of x)=ev T x:=by cases x <;> rfl
theorem ov_of_map {T:Tm} {l:List Operand}:(l.map Opd.of).map (ov T)=l.map (ev T):=by simp [ov_of]
theorem ov_of_opt {T:Tm} {x:Option Operand}:(x.map Opd.of).map (ov T)=x.map (ev T):=by cases x <;> simp [ov_of]
inductive Ins where
  | dead
  | mov (x:Opd)
  | pick (c a b:Opd)
  | ld1 (a:Opd)
  | ldn (k:Nat) (a:Opd)
  | nilck (x:Opd)
  | bin (op:BinOp) (tb tf:Bool) (x y:Opd)
  | binS (op:BinOp) (ks:List TK) (x y:Opd)
  | un (op:UnOp) (x:Opd)
  | conv (k:IntKind) (x:Opd)
  | mkfn (f:FuncId) (caps:List Opd)
  | mkbf (f:FuncId) (first:List Opd)
  | slsA (n:Nat) (x:Opd) (lo hi:Option Opd)
  | sls (sz:Nat) (x:Opd) (lo hi mx:Option Opd)
  | slstr (x:Opd) (lo hi:Option Opd)
  | fa (k:Nat) (p:Opd)
  | part1 (off:Nat) (x:Opd)
  | partn (off k:Nat) (x:Opd)
  | ixaA (len sz:Nat) (x i:Opd)
  | ixaS (sz:Nat) (x i:Opd)
  | ixA1 (len sz:Nat) (x i:Opd)
  | ixAn (len sz:Nat) (x i:Opd)
  | ixStr (x i:Opd)
  | ext (x:Opd) (i:Nat)
  | bld (z:List AV) (parts:List (Nat × Nat × Opd))
  | lenS (x:Opd)
  | lenStr (x:Opd)
  | lenC (n:Nat)
  | mx (x:Opd) (l:List Opd)
  | mn (x:Opd) (l:List Opd)
  | alloc (z:AV)
  | box (x:Opd)
  | bldS (sz len:Nat) (z:List AV) (parts:List (Nat × Nat × Opd))
  | mks (sz bytes:Nat) (z:List AV) (l c:Opd)
  | st (k:Nat) (p x:Opd)
  | app (sz bytes:Nat) (s x:Opd)
  | call (f:Opd) (args:List Opd)
  | mkm (h:Option Opd)
  | mput (k:MK) (m key x:Opd)
  | mget (k:MK) (z:AV) (ok:Bool) (m key:Opd)
  | mlen (m:Opd)
  | mrng (m:Opd)
  | mnxt (it:Opd)
  | ment (it:Opd)
  | cpy (sz:Nat) (d s:Opd)
  | clr (sz:Nat) (z:AV) (x:Opd)
  | snil (neg:Bool) (x:Opd)
  | s2b (x:Opd)
  | b2s (x:Opd)
  | mplc (k:MK) (z:AV) (m key:Opd)
  | mpst (m s x:Opd)
def tfunc (P:Program) (t:TypeId):Bool:=match P.underlying t with | some (.func ..)=>true | _=>false
def abin2 (op:BinOp) (tb tf:Bool) (x y:AV):Option AV :=
  match x,y with
  | .int k a,.int k' b=>if op=.shl ∨ op=.shr then ashift op k a b else if k=k' then aarith op k a b else none
  | .bool a,.bool b=>if tb=true then (match op with | .eql=>some (.bool (a == b)) | .neq=>some (.bool (!(a == b))) | _=>none) else none
  | .str a,.str b=>astrop op a b
  | .nilf,.nilf=>if tf=true then (match op with | .eql=>some (.bool true) | .neq=>some (.bool false) | _=>none) else none
  | .func _ _,.nilf=>if tf=true then (match op with | .eql=>some (.bool false) | .neq=>some (.bool true) | _=>none) else none
  | _,_=>none
theorem abin2_eq {P:Program} {op:BinOp} {t:TypeId} {x y:AV} {r:AV} (h:abin2 op (tbool P t) (tfunc P t) x y=some r):abin P op t x y=some r:=by
  unfold abin2 at h
  unfold abin
  split at h
  · exact h
  · exact h
  · exact h
  · split at h
    · rename_i hf
      unfold tfunc at hf
      split at hf
      · rename_i hu; simp only [hu]
        split at h <;> simp_all
      · cases hf
    · cases h
  · split at h
    · rename_i hf
      unfold tfunc at hf
      split at hf
      · rename_i hu; simp only [hu]
        split at h <;> simp_all
      · cases hf
    · cases h
  · cases h
def aixS (sz:Nat) (x i:AV):Option AV:=match i with
  | .int _ n=>match x with
    | .sl s elems=>if s=sz∧0 ≤ n∧n < elems.length then some (.iptr (elems.getD n.toNat .undef).cells 0) else none
    | .msl b m s off len=>if s=sz∧0 ≤ n∧n < len then some (.ptr b m (off + n.toNat * s)) else none
    | _=>none
  | _=>none
def asls (sz:Nat) (x:AV) (lo hi mx:Option AV):Option AV:=match x with
  | .sl s elems =>
    match abound 0 lo,abound elems.length hi,mx with
    | some l,some h,none=>if s=sz∧l ≤ h∧h ≤ elems.length then some (.sl s ((elems.take h).drop l)) else none
    | some l,some h,some m=>match abound 0 (some m) with
      | some m=>if l=0∧h=0∧m=0 then some .esl else none
      | none=>none
    | _,_,_=>none
  | .esl=>match abound 0 lo,abound 0 hi,mx with
    | some 0,some 0,none=>some .esl
    | _,_,_=>none
  | .msl b n s off len =>
    match abound 0 lo,abound len hi,mx with
    | some l,some h,none=>if s=sz∧l ≤ h∧h ≤ len∧n ≠ 0 then (if l=0 ∨ l < h then some (.msl b n s (off + l * s) (h - l)) else some (.sl s [])) else none
    | some l,some h,some m=>match abound 0 (some m) with
      | some m=>if l=0∧h=0∧m=0 then some .esl else none
      | none=>none
    | _,_,_=>none
  | _=>none
def aslstr (x:AV) (lo hi:Option AV):Option AV:=match x with
  | .str s=>match abound 0 lo,abound s.size hi with
    | some l,some h=>if l ≤ h∧h ≤ s.size then some (.str (s.extract l h)) else none
    | _,_=>none
  | _=>none
def afill2 (cells:List AV):List (Nat × Nat × AV)→Option (List AV)
  | []=>some cells
  | (off,size,x) :: rest=>if x.flat=true∧x.cells.length=size∧off + size ≤ cells.length then afill2 (lput cells off x.cells) rest else none
def acells (x:AV) (f:List AV→Option AV):Option AV:=match x with | .agg cs=>f cs | _=>none
def aint (x:AV) (f:Int→Option AV):Option AV:=match x with | .int _ n=>f n | _=>none
def alenS (x:AV):Option AV:=match x with
  | .sl _ elems=>some (.int .i64 elems.length)
  | .esl=>some (.int .i64 0)
  | .msl _ _ _ _ len=>some (.int .i64 len)
  | _=>none
def ival (T:Tm) (H:Hp):Ins→Option AV
  | .mov x=>some (ov T x)
  | .pick c a b=>match ov T c with | .bool t=>some (if t=true then ov T a else ov T b) | _=>none
  | .ld1 a=>rd1 H (ov T a)
  | .ldn k a=>(rd H k (ov T a)).map .agg
  | .nilck x=>match ov T x with | .ptr b n o=>some (.ptr b n o) | .iptr c o=>some (.iptr c o) | .func f c=>some (.func f c) | _=>none
  | .bin op tb tf x y=>abin2 op tb tf (ov T x) (ov T y)
  | .binS op ks x y=>acells (ov T x) fun xs=>acells (ov T y) fun ys=>acmpS op ks xs ys
  | .un op x=>aun op (ov T x)
  | .conv k x=>aint (ov T x) fun n=>some (.int k (k.wrap n))
  | .mkfn f caps=>some (.func f (caps.map (ov T)))
  | .mkbf f first=>some (.bfn f (first.map (ov T)))
  | .slsA n x lo hi=>aslsA n (ov T x) (lo.map (ov T)) (hi.map (ov T)) none
  | .sls sz x lo hi mx=>asls sz (ov T x) (lo.map (ov T)) (hi.map (ov T)) (mx.map (ov T))
  | .slstr x lo hi=>aslstr (ov T x) (lo.map (ov T)) (hi.map (ov T))
  | .fa k p=>apadd k (ov T p)
  | .part1 off x=>acells (ov T x) fun cs=>cs[off]?
  | .partn off k x=>acells (ov T x) fun cs=>if off + k ≤ cs.length then some (.agg ((cs.drop off).take k)) else none
  | .ixaA len sz x i=>aint (ov T i) fun n=>if 0 ≤ n∧n < len then apadd (n.toNat * sz) (ov T x) else none
  | .ixaS sz x i=>aixS sz (ov T x) (ov T i)
  | .ixA1 len sz x i=>acells (ov T x) fun cs=>aint (ov T i) fun n=>if 0 ≤ n∧n < len then cs[n.toNat * sz]? else none
  | .ixAn len sz x i=>acells (ov T x) fun cs=>aint (ov T i) fun n=>if 0 ≤ n∧n < len then (if n.toNat * sz + sz ≤ cs.length then some (.agg ((cs.drop (n.toNat * sz)).take sz)) else none) else none
  | .ixStr x i=>match ov T x with
    | .str s=>aint (ov T i) fun n=>if 0 ≤ n∧n < s.size then some (.int .u8 (s[n.toNat]?.getD 0).toNat) else none
    | _=>none
  | .ext x i=>aextract (ov T x) i
  | .bld z parts=>(afill2 z (parts.map fun p=>(p.1,p.2.1,ov T p.2.2))).map .agg
  | .lenS x=>alenS (ov T x)
  | .lenStr x=>match ov T x with | .str s=>some (.int .i64 s.size) | _=>none
  | .lenC n=>some (.int .i64 n)
  | .mx x l=>afold amax2 (ov T x) (l.map (ov T))
  | .mn x l=>afold amin2 (ov T x) (l.map (ov T))
  | _=>none
def aapp (sz bytes:Nat) (s x:AV) (H:Hp) (nx:Nat):Option (AV × Hp × Nat) :=
  match asrc sz H x with
  | none=>none
  | some (k,new) =>
    if new.all AV.one=true then
      match s with
      | .esl=>if k * bytes ≤ 140737488355328∧k ≤ 9223372036854775807 then some (.msl nx (k * sz) sz 0 k,hupd H nx new,nx + 1) else none
      | .msl b n s off len=>match H b with
        | some cs =>
          if cs.length=n∧s=sz then
            if off=0∧n=len * s∧(len + k) * bytes ≤ 140737488355328∧len + k ≤ 9223372036854775807 then some (.msl b ((len + k) * s) s 0 (len + k),hupd H b (cs ++ new),nx)
            else if off + (len + k) * s ≤ n∧0 < n then some (.msl b n s off (len + k),hupd H b (lput cs (off + len * s) new),nx)
            else if off=0∧len * s < n∧n < (len + k) * s∧(len + k) * bytes ≤ 140737488355328∧len + k ≤ 9223372036854775807 then some (.msl b ((len + k) * s) s 0 (len + k),hupd H b (cs.take (len * s) ++ new),nx)
            else none
          else none
        | none=>none
      | _=>none
    else none
def ieff (T:Tm) (H:Hp) (nx:Nat):Ins→Option (AV × Hp × Nat)
  | .alloc z=>abox z H nx
  | .box x=>abox (ov T x) H nx
  | .bldS sz len z parts=>if len=0 then (if parts.isEmpty=true then some (.esl,H,nx) else none) else
      match afill2 (zcells (.agg z) len) (parts.map fun p=>(p.1,p.2.1,ov T p.2.2)) with
      | some cells=>some (.msl nx cells.length sz 0 len,hupd H nx cells,nx + 1)
      | none=>none
  | .mks sz bytes z l c=>match ov T l,ov T c with
    | .int _ n,.int _ m=>if 0 ≤ n∧n ≤ m∧m ≤ 9223372036854775807∧bytes * m ≤ 281474976710656 then some (.msl nx (m.toNat * sz) sz 0 n.toNat,hupd H nx (zcells (.agg z) m.toNat),nx + 1) else none
    | _,_=>none
  | .st k p x=>match ov T p with
    | .ptr b n off=>match H b with
      | some cs=>if cs.length=n∧(ov T x).flat=true∧(ov T x).cells.length=k∧off + k ≤ n then some (.tup [],hupd H b (lput cs off (ov T x).cells),nx) else none
      | none=>none
    | _=>none
  | .app sz bytes s x=>aapp sz bytes (ov T s) (ov T x) H nx
  | _=>none
def bndOk (lo hi mx:Option Operand):Bool:=!(mx.isSome && hi.isNone)
def placesOf (pl:List (Nat × Nat)):List (Nat × Operand)→Option (List (Nat × Nat × Opd))
  | []=>some []
  | (i,x) :: l=>match pl[i]?,placesOf pl l with
    | some (o,s),some r=>some ((o,s,.of x) :: r)
    | _,_=>none
def placesOfA (sz:Nat) (l:List (Nat × Operand)):List (Nat × Nat × Opd):=l.map fun p=>(p.1 * sz,sz,.of p.2)
def comp1 (P:Program):Op→Option Ins
  | .move x=>some (.mov (.of x))
  | .assign x=>some (.mov (.of x))
  | .pick c a b=>some (.pick (.of c) (.of a) (.of b))
  | .load t a=>if tok P t then (if tagg P t then (if 0 < P.cellsOf t then some (.ldn (P.cellsOf t) (.of a)) else none) else some (.ld1 (.of a))) else none
  | .nilCheck x=>some (.nilck (.of x))
  | .binOp op t x y _=>match telem P t with | some _=>none | none=>match tkSR P t with | some ks=>some (.binS op ks (.of x) (.of y)) | none=>some (.bin op (tbool P t) (tfunc P t) (.of x) (.of y))
  | .unOp op _ x=>some (.un op (.of x))
  | .convert s d x=>if tok P s then (match tint P d with | some k=>some (.conv k (.of x)) | none=>none) else none
  | .makeFunc (.func f) first captured=>if first.size=0 then some (.mkfn f (captured.toList.map .of)) else if captured.size=0 then some (.mkbf f (first.toList.map .of)) else none
  | .slice t x lo hi mx=>if bndOk lo hi mx then (match P.underlying t with
    | some (.slice e)=>if tok P e then some (.sls (P.cellsOf e) (.of x) (lo.map .of) (hi.map .of) (mx.map .of)) else none
    | some .string=>match mx with | none=>some (.slstr (.of x) (lo.map .of) (hi.map .of)) | some _=>none
    | some (.array n e)=>if tok P e=true∧P.cellsOf e=1 then (match mx with | none=>some (.slsA n (.of x) (lo.map .of) (hi.map .of)) | some _=>none) else none
    | _=>none) else none
  | .fieldAddr t x f=>match foff P t f with | some k=>some (.fa k (.of x)) | none=>none
  | .field t x f=>match P.underlying t with
    | some (.struct fs)=>match fs[f]? with
      | some fd=>if tok P fd.type then (if tagg P fd.type then some (.partn fd.offset (P.cellsOf fd.type) (.of x)) else some (.part1 fd.offset (.of x))) else none
      | none=>none
    | _=>none
  | .indexAddr t x i=>match P.underlying t with
    | some (.array len e)=>if tok P e then some (.ixaA len (P.cellsOf e) (.of x) (.of i)) else none
    | some (.slice e)=>if tok P e then some (.ixaS (P.cellsOf e) (.of x) (.of i)) else none
    | _=>none
  | .index t x i=>match P.underlying t with
    | some (.array len e)=>if tok P e then (if tagg P e then some (.ixAn len (P.cellsOf e) (.of x) (.of i)) else some (.ixA1 len (P.cellsOf e) (.of x) (.of i))) else none
    | some .string=>some (.ixStr (.of x) (.of i))
    | _=>none
  | .extract x i=>some (.ext (.of x) i)
  | .build t parts=>match azero P t with
    | some z=>if z.flat=true then
      match tplaces P t with
      | some pl=>match placesOf pl parts.toList with
        | some ps=>some (.bld z.cells ps)
        | none=>none
      | none=>match tarr P t with
        | some (_,e)=>if tok P e=true then some (.bld z.cells (placesOfA (P.cellsOf e) parts.toList)) else none
        | none=>none
      else none
    | none=>none
  | .call { callee:=.builtin .len,args:=⟨[x]⟩,argTypes:=⟨[t]⟩ }=>match P.underlying t with
    | some (.slice _)=>some (.lenS (.of x))
    | some .string=>some (.lenStr (.of x))
    | some (.array n _)=>some (.lenC n)
    | _=>none
  | .call { callee:=.builtin .max,args:=⟨x :: l⟩,argTypes:=_ }=>some (.mx (.of x) (l.map .of))
  | .call { callee:=.builtin .min,args:=⟨x :: l⟩,argTypes:=_ }=>some (.mn (.of x) (l.map .of))
  | _=>none
def comp2 (P:Program):Op→Option Ins
  | .alloc e=>match azero P e with | some z=>some (.alloc z) | none=>none
  | .box _ x=>some (.box (.of x))
  | .buildSlice t len parts=>match telem P t with
    | none=>none
    | some e=>if tok P e=true∧0 < P.cellsOf e∧len * P.cellsOf e ≤ 16777216 then (match azero P e with
      | some z=>if z.flat=true∧z.cells.length=P.cellsOf e then some (.bldS (P.cellsOf e) len z.cells (placesOfA (P.cellsOf e) parts.toList)) else none
      | none=>none) else none
  | .makeSlice t l c=>match telem P t with
    | none=>none
    | some e=>match azero P e with
      | some z=>if tok P e=true∧z.flat=true∧z.cells.length=P.cellsOf e∧0 < P.cellsOf e then some (.mks (P.cellsOf e) (tbytes P e) z.cells (.of l) (.of c)) else none
      | none=>none
  | .store t p x=>if tok P t=true∧0 < P.cellsOf t then some (.st (P.cellsOf t) (.of p) (.of x)) else none
  | .call { callee:=.builtin .append,args:=⟨[s,x]⟩,argTypes:=⟨[tS,tX]⟩ }=>match telem P tS with
    | none=>none
    | some e=>if tok P e=true∧tok P tX=true∧tint P tX=none∧0 < P.cellsOf e∧zok P e=true then some (.app (P.cellsOf e) (tbytes P e) (.of s) (.of x)) else none
  | _=>none
theorem afill2_places {T:Tm} (pl:List (Nat × Nat)):∀ (parts:List (Nat × Operand)) (ps:List (Nat × Nat × Opd)) (cells:List AV),placesOf pl parts=some ps →
    afill (fun i=>pl[i]?) cells (parts.map fun p=>(p.1,ev T p.2))=afill2 cells (ps.map fun p=>(p.1,p.2.1,ov T p.2.2))
  | [],ps,cells,h=>by cases h; rfl
  | (i,x) :: l,ps,cells,h=>by
    simp only [placesOf] at h
    split at h
    · rename_i o s r h1 h2
      cases h
      simp only [List.map_cons,afill,h1,afill2,ov_of]
      split
      · exact afill2_places pl l r _ h2
      · rfl
    · cases h
theorem afill2_placesA {T:Tm} (sz:Nat):∀ (parts:List (Nat × Operand)) (cells:List AV),
    afill (fun i=>some (i * sz,sz)) cells (parts.map fun p=>(p.1,ev T p.2))=afill2 cells ((placesOfA sz parts).map fun p=>(p.1,p.2.1,ov T p.2.2))
  | [],cells=>rfl
  | (i,x) :: l,cells=>by
    simp only [List.map_cons,afill,afill2,placesOfA,ov_of]
    split
    · exact afill2_placesA sz l _
    · rfl
theorem zcells_cells (z:AV) (k:Nat):zcells (.agg z.cells) k=zcells z k:=rfl
theorem ival_ok {P:Program} {op:Op} {i:Ins} {T:Tm} {H:Hp} {r:AV} (hc:comp1 P op=some i) (h:ival T H i=some r):aval P T H op=some r:=by
  cases op with
  | move x=>cases hc; simp only [ival,ov_of] at h; exact h
  | assign x=>cases hc; simp only [ival,ov_of] at h; exact h
  | pick c a b=>cases hc; simp only [ival,ov_of] at h; exact h
  | load t a =>
    simp only [comp1] at hc
    simp only [aval,aload]
    split at hc
    · rename_i h1
      rw [if_pos h1]
      split at hc
      · rename_i h2
        rw [if_pos h2]
        split at hc
        · rename_i h3
          rw [if_pos h3]
          cases hc; simp only [ival,ov_of] at h; exact h
        · cases hc
      · rename_i h2
        rw [if_neg h2]
        cases hc; simp only [ival,ov_of] at h; exact h
    · cases hc
  | nilCheck x=>cases hc; simp only [ival,ov_of] at h; exact h
  | binOp op t x y _ =>
    simp only [comp1] at hc
    split at hc
    · cases hc
    split at hc
    · rename_i ks hks
      cases hc
      simp only [ival,ov_of] at h
      simp only [aval]
      unfold acells at h
      split at h
      · rename_i cs hx
        split at h
        · rename_i cs' hy
          rw [hx,hy]
          simp only [abin,hks]; exact h
        · cases h
      · cases h
    · cases hc; simp only [ival,ov_of] at h; exact abin2_eq h
  | unOp op _ x=>cases hc; simp only [ival,ov_of] at h; exact h
  | convert s d x =>
    simp only [comp1] at hc
    split at hc
    · rename_i h1
      split at hc
      · rename_i k hk
        cases hc
        simp only [ival,ov_of] at h
        simp only [aval,aconv]
        unfold aint at h
        split at h
        · rename_i hx; simp only [hx,h1,hk,if_true]; exact h
        · cases h
      · cases hc
    · cases hc
  | makeFunc fn first captured =>
    cases fn with
    | func f =>
      simp only [comp1] at hc
      split at hc
      · rename_i h1
        cases hc
        simp only [ival,ov_of_map] at h
        simp only [aval,if_pos h1]; exact h
      · rename_i h1
        split at hc
        · rename_i h2
          cases hc
          simp only [ival,ov_of_map] at h
          simp only [aval,if_neg h1,if_pos h2]; exact h
        · cases hc
    | _=>cases hc
  | slice t x lo hi mx =>
    simp only [comp1] at hc
    split at hc
    · rename_i hb
      have hb':¬ (mx.isSome=true∧hi.isNone=true):=by
        rintro ⟨h1,h2⟩
        simp [bndOk,h1,h2] at hb
      split at hc
      · rename_i e hu
        split at hc
        · rename_i h1
          cases hc
          simp only [ival,ov_of,ov_of_opt] at h
          simp only [aval,if_neg hb',aslice,hu,h1,if_true]
          exact h
        · cases hc
      · rename_i hu
        split at hc
        · cases hc
          simp only [ival,ov_of,ov_of_opt] at h
          simp only [aval,if_neg hb',aslice,hu]
          unfold aslstr at h
          split at h
          · rename_i s hs
            rw [hs]
            simp only [Option.map_none]
            split at h
            · rename_i l h' e1 e2
              simp only [e1,e2]; exact h
            · cases h
          · cases h
        · cases hc
      · rename_i n e hu
        split at hc
        · rename_i h1
          split at hc
          · cases hc
            simp only [ival,ov_of,ov_of_opt] at h
            simp only [aval,if_neg hb',aslice,hu,if_pos h1]
            exact h
          · cases hc
        · cases hc
      · cases hc
    · cases hc
  | fieldAddr t x f =>
    simp only [comp1] at hc
    split at hc
    · rename_i k hk
      cases hc
      simp only [ival,ov_of] at h
      simp only [aval,afieldAddr,hk]; exact h
    · cases hc
  | field t x f =>
    simp only [comp1] at hc
    split at hc
    · rename_i fs hu
      split at hc
      · rename_i fd hfd
        split at hc
        · rename_i h1
          split at hc
          · rename_i h2
            cases hc
            simp only [ival,ov_of] at h
            unfold acells at h
            split at h
            · rename_i cs hx
              simp only [aval,afield,hx,hu,hfd,apart,h1,h2,if_true]; exact h
            · cases h
          · rename_i h2
            cases hc
            simp only [ival,ov_of] at h
            unfold acells at h
            split at h
            · rename_i cs hx
              simp only [aval,afield,hx,hu,hfd,apart,h1,h2,if_true]; exact h
            · cases h
        · cases hc
      · cases hc
    · cases hc
  | indexAddr t x i =>
    simp only [comp1] at hc
    split at hc
    · rename_i len e hu
      split at hc
      · rename_i h1
        cases hc
        simp only [ival,ov_of] at h
        unfold aint at h
        split at h
        · rename_i n hn
          simp only [aval,aindexAddr,hn,hu,h1,true_and]
          exact h
        · cases h
      · cases hc
    · rename_i e hu
      split at hc
      · rename_i h1
        cases hc
        simp only [ival,ov_of] at h
        unfold aixS at h
        split at h
        · rename_i n hn
          simp only [aval,aindexAddr,hn,hu,h1,if_true]
          split at h
          · rename_i s elems hx
            simp only [hx]
            split at h
            · rename_i hb
              obtain ⟨b1,b2,b3⟩:=hb
              rw [if_pos ⟨b1,b2⟩]
              have hlt:n.toNat < elems.length:=by omega
              rw [List.getElem?_eq_getElem hlt]
              simp only [List.getD,List.getElem?_eq_getElem hlt,Option.getD_some] at h
              exact h
            · cases h
          · rename_i hx
            simp only [hx]; exact h
          · cases h
        · cases h
      · cases hc
    · cases hc
  | index t x i =>
    simp only [comp1] at hc
    split at hc
    · rename_i len e hu
      have hta:tarr P t=some (len,e):=by simp [tarr,hu]
      split at hc
      · rename_i h1
        split at hc
        · rename_i h2
          cases hc
          simp only [ival,ov_of] at h
          unfold acells at h
          split at h
          · rename_i cs hx
            unfold aint at h
            split at h
            · rename_i n hn
              simp only [aval,aindex,hx,hn,hta,apart,h1,h2,if_true]; exact h
            · cases h
          · cases h
        · rename_i h2
          cases hc
          simp only [ival,ov_of] at h
          unfold acells at h
          split at h
          · rename_i cs hx
            unfold aint at h
            split at h
            · rename_i n hn
              simp only [aval,aindex,hx,hn,hta,apart,h1,h2,if_true]; exact h
            · cases h
          · cases h
      · cases hc
    · rename_i hu
      cases hc
      simp only [ival,ov_of] at h
      split at h
      · rename_i s hs
        unfold aint at h
        split at h
        · rename_i n hn
          simp only [aval,aindex,hs,hn,hu]
          simp only at h
          split at h
          · rename_i hb
            rw [if_pos hb.1]
            have hlt:n.toNat < s.size:=by omega
            have e:s[n.toNat]?=some s[n.toNat]:=by simp [hlt]
            rw [e] at h ⊢
            exact h
          · cases h
        · cases h
      · cases h
    · cases hc
  | extract x i=>cases hc; simp only [ival,ov_of] at h; exact h
  | build t parts =>
    simp only [comp1] at hc
    split at hc
    · rename_i z hz
      split at hc
      · rename_i hf
        split at hc
        · rename_i pl hpl
          split at hc
          · rename_i ps hps
            cases hc
            simp only [ival] at h
            rw [← afill2_places pl _ _ _ hps] at h
            simp only [aval,abuild,hz,hpl,if_pos hf]; exact h
          · cases hc
        · rename_i hpl
          split at hc
          · rename_i k e hta
            split at hc
            · rename_i h1
              cases hc
              simp only [ival] at h
              rw [← afill2_placesA] at h
              simp only [aval,abuild,hz,hpl,if_pos hf,hta,if_pos h1]; exact h
            · cases hc
          · cases hc
      · cases hc
    · cases hc
  | call c =>
    obtain ⟨callee,args,argTypes⟩:=c
    cases callee with
    | builtin b =>
      obtain ⟨args⟩:=args
      obtain ⟨argTypes⟩:=argTypes
      cases b with
      | len =>
        rcases args with _ | ⟨x,_ | ⟨y,l⟩⟩
        · cases hc
        · rcases argTypes with _ | ⟨t,_ | ⟨u,l⟩⟩
          · cases hc
          · simp only [comp1] at hc
            split at hc
            · rename_i e hu
              cases hc
              simp only [ival,ov_of] at h
              unfold alenS at h
              simp only [aval,alen,hu]
              split at h <;> rename_i hx <;> first | (simp only [hx]; exact h) | cases h
            · rename_i hu
              cases hc
              simp only [ival,ov_of] at h
              simp only [aval,alen,hu]
              split at h <;> rename_i hx <;> first | (simp only [hx]; exact h) | cases h
            · rename_i n e hu
              cases hc
              simp only [ival] at h
              simp only [aval,alen,hu]
              exact h
            · cases hc
          · cases hc
        · cases hc
      | max =>
        rcases args with _ | ⟨x,l⟩
        · cases hc
        · cases hc
          simp only [ival,ov_of,ov_of_map] at h; exact h
      | min =>
        rcases args with _ | ⟨x,l⟩
        · cases hc
        · cases hc
          simp only [ival,ov_of,ov_of_map] at h; exact h
      | _=>cases hc
    | _=>cases hc
  | _=>cases hc
theorem ieff_ok {P:Program} {op:Op} {i:Ins} {T:Tm} {H:Hp} {nx:Nat} {r:AV × Hp × Nat} (hc:comp2 P op=some i) (h:ieff T H nx i=some r):aeff P T H nx op=some r:=by
  cases op with
  | alloc e =>
    simp only [comp2] at hc
    split at hc
    · rename_i z hz
      cases hc
      simp only [aeff,aalloc,hz]; exact h
    · cases hc
  | box _ x=>cases hc; simp only [ieff,ov_of] at h; exact h
  | buildSlice t len parts =>
    simp only [comp2] at hc
    split at hc
    · cases hc
    · rename_i e he
      split at hc
      · rename_i h1
        split at hc
        · rename_i z hz
          split at hc
          · rename_i h2
            cases hc
            simp only [ieff] at h
            simp only [aeff,abuildS,he,if_pos h1]
            split at h
            · rename_i hl
              rw [if_pos hl]
              split at h
              · rename_i hp
                have:parts.toList=[]:=by
                  unfold placesOfA at hp
                  simpa using hp
                rw [this]; exact h
              · cases h
            · rename_i hl
              rw [if_neg hl]
              simp only [hz,if_pos h2]
              rw [zcells_cells,← afill2_placesA] at h
              exact h
          · cases hc
        · cases hc
      · cases hc
  | makeSlice t l c =>
    simp only [comp2] at hc
    split at hc
    · cases hc
    · rename_i e he
      split at hc
      · rename_i z hz
        split at hc
        · rename_i h1
          cases hc
          simp only [ieff,ov_of] at h
          split at h
          · rename_i k n k' m hl hm
            split at h
            · rename_i hb
              simp only [aeff,amake,he,hl,hm,hz]
              rw [if_pos ⟨h1.1,h1.2.1,h1.2.2.1,h1.2.2.2,hb.1,hb.2.1,hb.2.2.1,hb.2.2.2⟩]
              rw [zcells_cells] at h
              exact h
            · cases h
          · cases h
        · cases hc
      · cases hc
  | store t p x =>
    simp only [comp2] at hc
    split at hc
    · rename_i h1
      cases hc
      simp only [ieff,ov_of] at h
      split at h
      · rename_i b n off hp
        split at h
        · rename_i cs hb
          split at h
          · rename_i h2
            simp only [aeff,astore,hp,hb]
            rw [if_pos ⟨h2.1,h1.1,h2.2.1,h2.2.2.1,h2.2.2.2,h1.2⟩]
            exact h
          · cases h
        · cases h
      · cases h
    · cases hc
  | call c =>
    obtain ⟨callee,args,argTypes⟩:=c
    cases callee with
    | builtin b =>
      obtain ⟨args⟩:=args
      obtain ⟨argTypes⟩:=argTypes
      cases b with
      | append =>
        rcases args with _ | ⟨x,_ | ⟨y,_ | ⟨z,l⟩⟩⟩
        · cases hc
        · cases hc
        · rcases argTypes with _ | ⟨t,_ | ⟨u,_ | ⟨v,l⟩⟩⟩
          · cases hc
          · cases hc
          · simp only [comp2] at hc
            split at hc
            · cases hc
            · rename_i e he
              split at hc
              · rename_i h1
                cases hc
                simp only [ieff,ov_of] at h
                simp only [aeff,aappend,he,if_pos h1]
                exact h
              · cases hc
          · cases hc
        · cases hc
      | _=>cases hc
    | _=>cases hc
  | _=>cases hc
def isp (i:Ins) (T:Tm) (H:Hp) (nx:Nat) (K:AV→Hp→Nat→Prop):Prop:=match i with
  | .mkm h=>(h=none ∨ ∃ x k n,h=some x∧ov T x=.int k n)∧K (.mp nx) (hupd H nx [.omap [] []]) (nx + 1)
  | .mput k m key x=>∃ b ks vs r,ov T m=.mp b∧H b=some [.omap ks vs]∧kfit k (ov T key)=true∧mfind k (ov T key) ks=some r∧K (.tup []) (hupd H b [.omap (msetK (ov T key) r ks) (msetV (ov T x) r vs)]) nx
  | .mget k z ok m key=>∃ b ks vs r,ov T m=.mp b∧H b=some [.omap ks vs]∧kfit k (ov T key)=true∧mfind k (ov T key) ks=some r∧K (Go.Abs.mget z ok r vs) H nx
  | .mlen m=>∃ b ks vs,ov T m=.mp b∧H b=some [.omap ks vs]∧K (.int .i64 ks.length) H nx
  | .mrng m=>∃ b ks vs,ov T m=.mp b∧H b=some [.omap ks vs]∧K (.itr nx) (hupd H nx [.oiter b ks.length []]) (nx + 1)
  | .mnxt it=>∃ b m n0 seen ks vs,ov T it=.itr b∧H b=some [.oiter m n0 seen]∧H m=some [.omap ks vs]∧ks.length=n0 ∧
      (∀ i,i < ks.length→i ∉ seen→K (.tup [.bool true,ks.getD i .undef,vs.getD i .undef]) (hupd H b [.oiter m n0 (seen ++ [i])]) nx) ∧
      ((∀ i,i < n0→i < ks.length→i ∈ seen)→K (.tup [.bool false]) H nx)
  | .ment it=>∃ b m n0 i seen ks vs,ov T it=.itr b∧H b=some [.oiter m n0 seen]∧H m=some [.omap ks vs]∧ks.length=n0∧seen.getLast?=some i∧i < ks.length∧K (.tup [ks.getD i .undef,vs.getD i .undef]) H nx
  | .cpy sz d s=>∃ n H',acopy sz (ov T d) (ov T s) H=some (n,H')∧K (.int .i64 n) H' nx
  | .clr sz z x=>∃ H',aclear sz z (ov T x) H=some H'∧K (.tup []) H' nx
  | .snil neg x=>∃ k,alenN (ov T x)=some k∧snilRes neg k fun r=>K r H nx
  | .s2b x=>∃ bs:ByteArray,ov T x=.str bs∧(bs.size=0→K (.sl 1 []) H nx)∧(bs.size ≠ 0→K (.msl nx bs.size 1 0 bs.size) (hupd H nx (bs.data.toList.map encB)) (nx + 1))
  | .b2s x=>∃ (n:Nat) (bs:List UInt8),asrc 1 H (ov T x)=some (n,bs.map encB)∧K (.str ⟨bs.toArray⟩) H nx
  | .mplc k z m key=>∃ b ks vs r,ov T m=.mp b∧H b=some [.omap ks vs]∧kfit k (ov T key)=true∧mfind k (ov T key) ks=some r∧K (.tup [mplO z r vs,.int .i64 (mplI r ks)]) (hupd H b [.omap (msetK (ov T key) r ks) (mplV z r vs)]) nx
  | .mpst m s x=>∃ (b:Nat) (ks vs:List AV) (i:Nat),ov T m=.mp b∧H b=some [.omap ks vs]∧ov T s=.int .i64 (i:Int)∧i < ks.length∧K (.tup []) (hupd H b [.omap ks (vs.set i (ov T x))]) nx
  | _=>False
def comp3 (P:Program):Op→Option Ins
  | .makeMap t r=>match tmap P t with | some _=>some (.mkm (r.map .of)) | none=>none
  | .mapUpdate t m k x=>match tmap P t with
    | some (kt,_)=>(mkk P kt).map fun mk=>.mput mk (.of m) (.of k) (.of x)
    | none=>none
  | .insert t m k x=>match tmap P t with
    | some (kt,_)=>(mkk P kt).map fun mk=>.mput mk (.of m) (.of k) (.of x)
    | none=>none
  | .lookup t m k ok=>match tmap P t with
    | some (kt,et)=>match mkk P kt,azero P et with
      | some mk,some z=>some (.mget mk z ok (.of m) (.of k))
      | _,_=>none
    | none=>none
  | .range t m=>match tmap P t with | some _=>some (.mrng (.of m)) | none=>none
  | .next it false=>some (.mnxt (.of it))
  | .entry it=>some (.ment (.of it))
  | .call { callee:=.builtin .len,args:=⟨[x]⟩,argTypes:=⟨[t]⟩ }=>match tmap P t with | some _=>some (.mlen (.of x)) | none=>none
  | .binOp .eql t x (.const (.slice none 0 0)) _=>match telem P t with | some _=>some (.snil false (.of x)) | none=>none
  | .binOp .neq t x (.const (.slice none 0 0)) _=>match telem P t with | some _=>some (.snil true (.of x)) | none=>none
  | .call { callee:=.builtin .copy,args:=⟨[d,s]⟩,argTypes:=⟨[tD,_]⟩ }=>match telem P tD with
    | some e=>if tok P e=true then some (.cpy (P.cellsOf e) (.of d) (.of s)) else none
    | none=>none
  | .call { callee:=.builtin .clear,args:=⟨[x]⟩,argTypes:=⟨[t]⟩ }=>match telem P t with
    | some e=>match azero P e with
      | some z=>if 0 < P.cellsOf e then some (.clr (P.cellsOf e) z (.of x)) else none
      | none=>none
    | none=>none
  | .convert s d x=>match P.underlying s,P.underlying d with
    | some .string,some (.slice e)=>if tint P e=some .u8 then some (.s2b (.of x)) else none
    | some (.slice e),some .string=>if tint P e=some .u8 then some (.b2s (.of x)) else none
    | _,_=>none
  | .mapEntry t m k=>match tmap P t with
    | some (kt,et)=>match mkk P kt,azero P et with
      | some mk,some z=>some (.mplc mk z (.of m) (.of k))
      | _,_=>none
    | none=>none
  | .entryStore _ m s x=>some (.mpst (.of m) (.of s) (.of x))
  | _=>none
theorem isp_ok {P:Program} {op:Op} {i:Ins} {T:Tm} {H:Hp} {nx:Nat} {K:AV→Hp→Nat→Prop} (hc:comp3 P op=some i) (h:isp i T H nx K):aspec P op T H nx K:=by
  have put:∀ t m k x,comp3 P (.mapUpdate t m k x)=some i→isp i T H nx K→aspec P (.mapUpdate t m k x) T H nx K:=by
    intro t m k x hc h
    simp only [comp3] at hc
    split at hc
    · rename_i kt et ht
      cases hk:mkk P kt with
      | none=>rw [hk] at hc; cases hc
      | some mk =>
        rw [hk] at hc; cases hc
        obtain ⟨b,ks,vs,r,h1,h2,h3,h4,h5⟩:=h
        simp only [ov_of] at h1 h3 h4 h5
        exact aspec_mapUpdate ht hk h1 h2 h3 h4 h5
    · cases hc
  unfold comp3 at hc
  split at hc
  · rename_i t r
    split at hc
    · rename_i p ht
      cases hc
      obtain ⟨h1,h2⟩:=h
      refine aspec_makeMap ?_ h2
      rcases h1 with h1 | ⟨x,k,n,h1,h3⟩
      · cases r with
        | none=>exact .inl rfl
        | some r=>cases h1
      · cases r with
        | none=>cases h1
        | some r=>cases h1; rw [ov_of] at h3; exact .inr ⟨r,n,k,p,rfl,h3,ht⟩
    · cases hc
  · rename_i t m k x
    exact put t m k x hc h
  · rename_i t m k x
    exact aspec_insert (put t m k x hc h)
  · rename_i t m k ok
    split at hc
    · rename_i kt et ht
      split at hc
      · rename_i mk z hk hz
        cases hc
        obtain ⟨b,ks,vs,r,h1,h2,h3,h4,h5⟩:=h
        simp only [ov_of] at h1 h3 h4
        exact aspec_lookup ht hk hz h1 h2 h3 h4 h5
      · cases hc
    · cases hc
  · rename_i t m
    split at hc
    · rename_i p ht
      cases hc
      obtain ⟨b,ks,vs,h1,h2,h3⟩:=h
      rw [ov_of] at h1
      exact aspec_mrange ht h1 h2 h3
    · cases hc
  · cases hc
    obtain ⟨b,m,n0,seen,ks,vs,h1,h2,h3,h4,h5,h6⟩:=h
    rw [ov_of] at h1
    exact aspec_mnext h1 h2 h3 h4 h5 h6
  · cases hc
    obtain ⟨b,m,n0,i,seen,ks,vs,h1,h2,h3,h4,h5,h6,h7⟩:=h
    rw [ov_of] at h1
    exact aspec_mentry h1 h2 h3 h4 h5 h6 h7
  · rename_i x t
    split at hc
    · rename_i p ht
      cases hc
      obtain ⟨b,ks,vs,h1,h2,h3⟩:=h
      rw [ov_of] at h1
      exact aspec_mlen ht h1 h2 h3
    · cases hc
  · rename_i t x ty
    split at hc
    · rename_i e ht
      cases hc
      obtain ⟨k,h1,h2⟩:=h
      rw [ov_of] at h1
      exact aspec_snil (neg:=false) ht h1 h2
    · cases hc
  · rename_i t x ty
    split at hc
    · rename_i e ht
      cases hc
      obtain ⟨k,h1,h2⟩:=h
      rw [ov_of] at h1
      exact aspec_snil (neg:=true) ht h1 h2
    · cases hc
  · rename_i d s tD tS
    split at hc
    · rename_i e ht
      split at hc
      · rename_i hte
        cases hc
        obtain ⟨n,H',h1,h2⟩:=h
        simp only [ov_of] at h1
        exact aspec_copy ht hte h1 h2
      · cases hc
    · cases hc
  · rename_i x t
    split at hc
    · rename_i e ht
      split at hc
      · rename_i z hz
        split at hc
        · rename_i hpos
          cases hc
          obtain ⟨H',h1,h2⟩:=h
          simp only [ov_of] at h1
          exact aspec_clear ht hz h1 hpos h2
        · cases hc
      · cases hc
    · cases hc
  · rename_i s d x
    have tu:∀ {e},tint P e=some .u8→P.underlying e=some (.int .u8):=fun {e} h=>by
      unfold tint at h
      split at h
      · rename_i hu; cases h; exact hu
      · cases h
    split at hc
    · rename_i e hs hd
      split at hc
      · rename_i he
        cases hc
        obtain ⟨bs,h1,h2,h3⟩:=h
        rw [ov_of] at h1
        exact aspec_s2b hs hd (tu he) h1 h2 h3
      · cases hc
    · rename_i e hs hd
      split at hc
      · rename_i he
        cases hc
        obtain ⟨n,bs,h1,h2⟩:=h
        rw [ov_of] at h1
        exact aspec_b2s hs (tu he) hd h1 h2
      · cases hc
    · cases hc
  · rename_i t m k
    split at hc
    · rename_i kt et ht
      split at hc
      · rename_i mk z hk hz
        cases hc
        obtain ⟨b,ks,vs,r,h1,h2,h3,h4,h5⟩:=h
        simp only [ov_of] at h1 h3 h4 h5
        exact aspec_mapEntry ht hk hz h1 h2 h3 h4 h5
      · cases hc
    · cases hc
  · cases hc
    obtain ⟨b,ks,vs,i,h1,h2,h3,h4,h5⟩:=h
    simp only [ov_of] at h1 h3 h5
    exact aspec_entryStore h1 h2 h3 h4 h5
  · cases hc
end Go.Abs
namespace Go.Abs
open Go.RowKit
structure Op2 where
  d:Option Nat
  g:Option (Nat × Bool)
  i:Ins
inductive C2 where
  | skip
  | ops (m:Nat) (l:List Op2)
  | mix (m:Nat) (l:List Op2) (C:List Nat)
  | mixS (m:Nat) (l:List Op2) (C:List (Nat × Nat))
  | seq (a b:C2)
  | cond (c:Opd) (a b:C2)
  | block (id:Nat) (b:C2)
  | loop (b:C2)
  | exit (id:Nat)
  | ret
  | rangeF (g:Opd) (ps:List Nat) (a b:C2)
inductive IC where
  | val | eff | call | sp
  deriving DecidableEq
def ic:Ins→IC
  | .alloc _ | .box _ | .bldS .. | .mks .. | .st .. | .app ..=>.eff
  | .call ..=>.call
  | .mkm .. | .mput .. | .mget .. | .mlen _ | .mrng _ | .mnxt _ | .ment _ | .cpy .. | .clr .. | .snil .. | .s2b _ | .b2s _ | .mplc .. | .mpst ..=>.sp
  | _=>.val
def oldP (m:Nat) (p:AV):Bool:=match p with | .ptr b _ _=>b < m | _=>true
def newP (m:Nat) (p:AV):Bool:=match p with | .ptr b _ _=>m ≤ b | _=>true
def dm2 (dm:DM) (T:Tm) (i:Ins):Bool:=match dm with
  | .fresh m=>match i with
    | .ld1 a=>oldP m (ov T a)
    | .ldn _ a=>oldP m (ov T a)
    | .st _ p _=>newP m (ov T p)
    | .app ..=>false
    | _=>true
  | _=>true
def ains (P:Program) (dm:DM) (i:Ins) (T:Tm) (H:Hp) (nx:Nat) (K:AV→Hp→Nat→Prop):Prop :=
  match ic i with
  | .val=>bbind (dm2 dm T i) (obind (ival T H i) fun r=>K r H nx)
  | .eff=>bbind (dm2 dm T i) (obind (ieff T H nx i) fun x=>K x.1 x.2.1 x.2.2)
  | .call=>match i with
    | .call f args=>(obind (isFn (ov T f)) fun y=>match dm.isText with
      | false=>PCall P y.1 (args.map (ov T) ++ y.2) H fun r=>K r H nx
      | true=>Fn P y.1 (args.map (ov T) ++ y.2) H nx K) ∨ (dm.isText=true∧((∃ b,ov T f=.yld b∧Yl P b (args.map (ov T)) H nx K) ∨ ∃ g fs,ov T f=.bfn g fs∧Fn P g (fs ++ args.map (ov T)) H nx K))
    | _=>False
  | .sp=>dm.isText=true∧isp i T H nx K
def g2 (T:Tm):Option (Nat × Bool)→Option Bool
  | none=>some true
  | some (t,want)=>match T t with
    | .bool b=>some (b == want)
    | .tup []=>some false
    | _=>none
def aops2 (P:Program) (dm:DM):List Op2→Tm→Hp→Nat→SP→Prop
  | [],T,H,nx,K=>K T H nx
  | o :: l,T,H,nx,K=>gbind (g2 T o.g) (ains P dm o.i T H nx fun r H nx=>aops2 P dm l (updo T o.d r) H nx K) (aops2 P dm l (updo T o.d (.tup [])) H nx K)
def ibld (T:Tm):Ins→Option AV
  | .bldS sz len z parts=>bldRes (ieff T noBoxes 0 (.bldS sz len z parts))
  | _=>none
def aops2S (P:Program) (S:Hp):List (Op2 × Nat)→Tm→Hp→Nat→SP→Prop
  | [],T,H,nx,K=>K T H nx
  | (o,0) :: l,T,H,nx,K=>gbind (g2 T o.g) (obind (ival T S o.i) fun r=>aops2S P S l (updo T o.d r) H nx K) (aops2S P S l (updo T o.d (.tup [])) H nx K)
  | (o,k + 1) :: l,T,H,nx,K=>gbind (g2 T o.g) (if k=2 then obind (ibld T o.i) fun r=>aops2S P S l (updo T o.d r) H nx K else ains P .text o.i T H nx fun r H' nx'=>(k=0→Sub S H')∧aops2S P S l (updo T o.d r) H' nx' K) (aops2S P S l (updo T o.d (.tup [])) H nx K)
def awp2 (P:Program):C2→Tm→Hp→Nat→CP→Prop
  | .skip,T,H,nx,K=>K .normal T H nx
  | .ops m l,T₀,H₀,nx₀,K=>∃ T H nx Hf,Gh T₀ H₀ nx₀ T H nx Hf∧aops2 P (match m with | 0=>.text | 1=>.draw | _=>.fresh nx) l T H nx (K .normal)
  | .mix m l C,T₀,H₀,nx₀,K=>(m ≠ 9∧∃ T H nx Hf,Gh T₀ H₀ nx₀ T H nx Hf∧aops2 P (match m with | 1=>.draw | _=>.fresh nx) l T H nx (K .normal)) ∨
      ∃ T H nx Hf,Gh T₀ H₀ nx₀ T H nx Hf∧aops2 P .text (C.map fun k=>l.getD k ⟨none,none,.dead⟩) T H nx (K .normal)
  | .mixS m l C,T₀,H₀,nx₀,K=>(m ≠ 9∧∃ T H nx Hf,Gh T₀ H₀ nx₀ T H nx Hf∧aops2 P (match m with | 1=>.draw | _=>.fresh nx) l T H nx (K .normal)) ∨
      ∃ T H nx Hf S,Gh T₀ H₀ nx₀ T H nx Hf∧Sub S H∧aops2S P S (C.map fun k=>(l.getD k.1 ⟨none,none,.dead⟩,k.2)) T H nx (K .normal)
  | .seq x y,T,H,nx,K=>awp2 P x T H nx fun e T H nx=>athen e (awp2 P y T H nx K) (K e T H nx)
  | .cond c x y,T,H,nx,K=>acond (ov T c) (awp2 P x T H nx K) (awp2 P y T H nx K)
  | .block id b,T,H,nx,K=>awp2 P b T H nx fun e T H nx=>K (ablock id e) T H nx
  | .loop b,T,H,nx,K=>aloop (awp2 P b) T H nx K
  | .exit id,T,H,nx,K=>K (.exit id) T H nx
  | .ret,T,H,nx,K=>K .ret T H nx
  | .rangeF g ps a b,T,H,nx,K=>∃ f caps,ov T g=.func f caps∧∀ (c0:AV) (cj:AEx→AV),
      (∀ (args:List AV) (H':Hp) (nx':Nat) (K':AV→Hp→Nat→Prop),H' nx=some [c0]→args.length=ps.length →
        awp2 P a (updl T ps args) H' nx' (fun e T2 H2 nx2=>athen e (H2 nx=some [c0]∧awp2 P b T2 (hdel H2 nx) nx2 fun e T3 H3 nx3=>athen e (K' (.bool true) (hupd H3 nx [c0]) nx3) (K' (.bool false) (hupd H3 nx [cj e]) nx3)) False) →
        Yl P nx args H' nx' K') →
      Fn P f (.yld nx :: caps) (hupd H nx [c0]) (nx + 1) fun _ H' nx'=>(H' nx=some [c0]∧K .normal T (hdel H' nx) nx') ∨ ∃ e,e ≠ .normal∧H' nx=some [cj e]∧K e T (hdel H' nx) nx'
def opIC:Op→Option IC
  | .call { callee:=.value _,.. }=>some .call
  | op=>match opk op with
    | .pure | .touch=>some .val
    | .alloc | .write=>some .eff
    | .other=>none
def compI (P:Program) (op:Op):Option Ins:=match opIC op with
  | some .call=>match callOf op with
    | some (f,args)=>some (.call (.of f) (args.toList.map .of))
    | none=>none
  | some .val=>match comp1 P op with
    | some i=>if ic i=.val then some i else none
    | none=>none
  | some .eff=>match comp2 P op with
    | some i=>if ic i=.eff then some i else none
    | none=>none
  | _=>none
def compD (P:Program) (op:Op):Ins:=match compI P op with
  | some i=>i
  | none=>match comp3 P op with
    | some i=>if ic i=.sp then i else .dead
    | none=>.dead
def compG (dsts:List (Option Nat)):Option (Nat × Bool)→Option (Option (Nat × Bool))
  | none=>some none
  | some (j,want)=>match dsts[j]? with
    | some (some d)=>some (some (d,want))
    | _=>none
def compO (P:Program) (N:Nat) (dsts:List (Option Nat)) (o:Oper):Option Op2 :=
  if dok N o.dst then (match compG dsts o.guard with
    | some g=>some ⟨o.dst,g,compD P o.op⟩
    | none=>none) else none
def compL (P:Program) (N:Nat) (dsts:List (Option Nat)):List Oper→Option (List Op2)
  | []=>some []
  | o :: l=>match compO P N dsts o,compL P N dsts l with
    | some o,some l=>some (o :: l)
    | _,_=>none
def vpP (P:Program) (op:Op):Bool:=isMov op || (opk op == .pure && (compI P op).isSome)
theorem vpP_ok (P:Program):VP (vpP P):=⟨fun op h=>by
  unfold vpP at h
  rw [Bool.or_eq_true,Bool.and_eq_true] at h
  rcases h with h | h
  · exact isMov_pure h
  · simpa using h.1,fun op h=>by unfold vpP; rw [h]; rfl⟩
def otherB (P:Program) (ops:List Oper):Bool:=ops.any fun o=>opk o.op == .other || (opk o.op == .pure && !vpP P o.op)
def mixC (P:Program) (ops:List Oper):List Nat :=
  let m:=Region.before ops.toArray
  let r:=List.range ops.length
  let sp:=r.filter fun i=>!vpP P (ops.getD i default).op
  let C:=sp.foldl (fun acc s=>acc ++ (r.filter fun i=>vpP P (ops.getD i default).op && !acc.contains i && !sp.any fun q=>mbit m i q && !acc.contains q) ++ [s]) []
  C ++ r.filter fun i=>!C.contains i
def mixy (P:Program) (N:Nat) (ops:List Oper):Bool :=
  (otherB P ops || ops.any fun o=>opIC o.op == some .call) && mixOk (vpP P) N ops (mixC P ops)
def svP (P:Program) (op:Op):Bool:=sv (vpP P) op
def mixCS (P:Program) (ops:List Oper):List Nat :=
  let m:=Region.before ops.toArray
  let r:=List.range ops.length
  let sp:=r.filter fun i=>!svP P (ops.getD i default).op
  let C:=sp.foldl (fun acc s=>acc ++ (r.filter fun i=>svP P (ops.getD i default).op && !acc.contains i && !sp.any fun q=>mbit m i q && !acc.contains q) ++ [s]) []
  C ++ r.filter fun i=>!C.contains i
def mixyS (P:Program) (N:Nat) (ops:List Oper):Bool :=
  (otherB P ops || (ops.any fun o=>opIC o.op == some .call) || !drawOk false ops) && (ops.all fun o=>!isLoad o.op || (compI P o.op).isSome) && mixNOk (vpP P) (fun _=>false) N ops (mixCS P ops)
def kindS (P:Program) (bp:Op→Bool) (ops:List Oper) (k:Nat):Nat:=if (bp (ops.getD k default).op && isBld (ops.getD k default).op)=true then 3 else if svP P (ops.getD k default).op=true then 0 else if keepI ops k=true then 1 else 2
def mixCB (P:Program) (bp:Op→Bool) (ops:List Oper):List Nat :=
  let m:=Region.before ops.toArray
  let r:=List.range ops.length
  let v:=fun i=>svP P (ops.getD i default).op || (bp (ops.getD i default).op && isBld (ops.getD i default).op)
  let sp:=r.filter fun i=>!v i
  let C:=sp.foldl (fun acc s=>acc ++ (r.filter fun i=>v i && !acc.contains i && !sp.any fun q=>mbit m i q && !acc.contains q) ++ [s]) []
  C ++ r.filter fun i=>!C.contains i
def mixyB (P:Program) (bp:Op→Bool) (N:Nat) (ops:List Oper):Bool :=
  (ops.all fun o=>!(isLoad o.op || (bp o.op && isBld o.op)) || (compI P o.op).isSome) && mixNOk (vpP P) bp N ops (mixCB P bp ops)
def bpA (P:Program) (op:Op):Bool:=match compI P op with
  | some (.bldS 1 _ _ _)=>true
  | _=>false
def mixyA (P:Program) (N:Nat) (ops:List Oper):Bool :=
  (ops.any fun o=>bpA P o.op) && (ops.any fun o=>isBld o.op && !bpA P o.op) && mixyB P (bpA P) N ops
def comp (P:Program) (N:Nat):Code→Option C2
  | .skip=>some .skip
  | .label _=>some .skip
  | .region _ ops draw=>match compL P N (ops.toList.map (·.dst)) ops.toList with
    | some l=>if draw=true then (if mixyA P N ops.toList=true then some (.mixS 9 l ((mixCB P (bpA P) ops.toList).map fun k=>(k,kindS P (bpA P) ops.toList k))) else if mixy P N ops.toList=true then some (.mix (if otherB P ops.toList=true then 9 else if drawOk false ops.toList=true then 1 else if drawOk true ops.toList=true then 2 else 9) l (mixC P ops.toList)) else if mixyS P N ops.toList=true then some (.mixS (if otherB P ops.toList=true then 9 else if drawOk false ops.toList=true then 1 else if drawOk true ops.toList=true then 2 else 9) l ((mixCS P ops.toList).map fun k=>(k,kindS P (fun _=>false) ops.toList k))) else if drawOk false ops.toList=true then some (.ops 1 l) else if drawOk true ops.toList=true then some (.ops 2 l) else if mixyB P (fun _=>true) N ops.toList=true then some (.mixS 9 l ((mixCB P (fun _=>true) ops.toList).map fun k=>(k,kindS P (fun _=>true) ops.toList k))) else none) else some (.ops 0 l)
    | none=>none
  | .seq a b=>match comp P N a,comp P N b with
    | some a,some b=>some (.seq a b)
    | _,_=>none
  | .cond c a b=>match comp P N a,comp P N b with
    | some a,some b=>some (.cond (.of c) a b)
    | _,_=>none
  | .block id b=>match comp P N b with
    | some b=>some (.block id b)
    | none=>none
  | .loop b=>match comp P N b with
    | some b=>some (.loop b)
    | none=>none
  | .exit id=>some (.exit id)
  | .ret=>some .ret
  | .rangeFunc g ps a b=>if ps.toList.all (fun t=>decide (t < N))=true then (match comp P N a,comp P N b with
    | some a,some b=>some (.rangeF (.of g) ps.toList a b)
    | _,_=>none) else none
  | _=>none
theorem obind_mono {α:Type} {x:Option α} {A B:α→Prop} (hab:∀ a,A a→B a) (h:obind x A):obind x B:=by
  cases x with
  | none=>exact h
  | some a=>exact hab a h
theorem dm2_ok {P:Program} {dm:DM} {op:Op} {i:Ins} {T:Tm} (hc:(comp1 P op=some i∧opk op ≠ .write) ∨ comp2 P op=some i) (h:dm2 dm T i=true):dmOk dm T op=true:=by
  cases dm with
  | text=>rfl
  | draw=>rfl
  | fresh m =>
    rcases hc with ⟨hc,hk⟩ | hc
    · cases op with
      | load t a =>
        simp only [comp1] at hc
        split at hc
        · split at hc
          · split at hc
            · cases hc
              simp only [dm2,oldP,ov_of] at h
              simp only [dmOk,frOk]; exact h
            · cases hc
          · cases hc
            simp only [dm2,oldP,ov_of] at h
            simp only [dmOk,frOk]; exact h
        · cases hc
      | store t p x=>exact absurd rfl hk
      | _=>simpa [dmOk,frOk] using hk
    · cases op with
      | store t p x =>
        simp only [comp2] at hc
        split at hc
        · cases hc
          simp only [dm2,newP,ov_of] at h
          simp only [dmOk,frOk]; exact h
        · cases hc
      | alloc e=>rfl
      | box e x=>rfl
      | buildSlice t len parts=>rfl
      | makeSlice t l c=>rfl
      | call c =>
        obtain ⟨callee,args,argTypes⟩:=c
        cases callee with
        | builtin b =>
          obtain ⟨args⟩:=args
          obtain ⟨argTypes⟩:=argTypes
          cases b with
          | append =>
            rcases args with _ | ⟨x,_ | ⟨y,_ | ⟨z,l⟩⟩⟩
            · cases hc
            · cases hc
            · rcases argTypes with _ | ⟨t,_ | ⟨u,_ | ⟨v,l⟩⟩⟩
              · cases hc
              · cases hc
              · simp only [comp2] at hc
                split at hc
                · cases hc
                · split at hc
                  · cases hc
                    cases h
                  · cases hc
              · cases hc
            · cases hc
          | _=>cases hc
        | _=>cases hc
      | _=>cases hc
theorem ains_ok {P:Program} {dm:DM} {op:Op} {i:Ins} {T:Tm} {H:Hp} {nx:Nat} {K:AV→Hp→Nat→Prop} (hc:compI P op=some i) (h:ains P dm i T H nx K):aop1 P dm op T H nx K:=by
  unfold aop1
  unfold compI at hc
  split at hc
  · rename_i hk
    split at hc
    · rename_i f args hf
      cases hc
      have h:(obind (isFn (ov T (.of f))) fun y=>match (generalizing:=false) dm.isText with
        | false=>PCall P y.1 ((args.toList.map Opd.of).map (ov T) ++ y.2) H fun r=>K r H nx
        | true=>Fn P y.1 ((args.toList.map Opd.of).map (ov T) ++ y.2) H nx K) ∨ (dm.isText=true∧((∃ b,ov T (.of f)=.yld b∧Yl P b ((args.toList.map Opd.of).map (ov T)) H nx K) ∨ ∃ g fs,ov T (.of f)=.bfn g fs∧Fn P g (fs ++ (args.toList.map Opd.of).map (ov T)) H nx K)):=h
      rw [ov_of,ov_of_map] at h
      obtain ⟨ts,rfl⟩:=callOf_eq hf
      rcases h with h | ⟨h1,⟨b,h2,h3⟩ | ⟨g,fs,h2,h3⟩⟩
      · exact .inl h
      · exact .inr ⟨h1,aspec_yield h2 h3⟩
      · exact .inr ⟨h1,aspec_bcall h2 h3⟩
    · cases hc
  · rename_i hk
    split at hc
    · rename_i j hj
      split at hc
      · rename_i hic
        cases hc
        have hoc:opc op=.val∧opk op ≠ .write:=by
          unfold opIC at hk
          split at hk
          · cases hk
          · rename_i hn
            unfold opc
            split
            · rename_i a b c; exact absurd rfl (hn _ _ _)
            · split at hk <;> rename_i hkk <;> (try rw [hkk]) <;> first | (cases hk; done) | (exact ⟨rfl,by decide⟩)
        unfold ains at h
        rw [hic] at h
        simp only at h
        left
        unfold aop1o
        rw [hoc.1]
        simp only
        refine ⟨dm2_ok (.inl ⟨hj,hoc.2⟩) h.1,?_⟩
        have h:=h.2
        cases hv:ival T H i with
        | none=>rw [hv] at h; exact h.elim
        | some r=>rw [ival_ok hj hv]; rw [hv] at h; exact h
      · cases hc
    · cases hc
  · rename_i hk
    split at hc
    · rename_i j hj
      split at hc
      · rename_i hic
        cases hc
        have hoc:opc op=.eff:=by
          unfold opIC at hk
          split at hk
          · cases hk
          · rename_i hn
            unfold opc
            split
            · rename_i a b c; exact absurd rfl (hn _ _ _)
            · split at hk <;> rename_i hkk <;> (try rw [hkk]) <;> cases hk
        unfold ains at h
        rw [hic] at h
        simp only at h
        left
        unfold aop1o
        rw [hoc]
        simp only
        refine ⟨dm2_ok (.inr hj) h.1,?_⟩
        have h:=h.2
        cases hv:ieff T H nx i with
        | none=>rw [hv] at h; exact h.elim
        | some r=>rw [ieff_ok hj hv]; rw [hv] at h; exact h
      · cases hc
    · cases hc
  · cases hc
theorem ains_okD {P:Program} {dm:DM} {op:Op} {T:Tm} {H:Hp} {nx:Nat} {K:AV→Hp→Nat→Prop} (h:ains P dm (compD P op) T H nx K):aop1 P dm op T H nx K:=by
  unfold compD at h
  split at h
  · rename_i i hi; exact ains_ok hi h
  · split at h
    · rename_i i hi
      split at h
      · rename_i hic
        unfold ains at h
        rw [hic] at h
        exact .inr ⟨h.1,isp_ok hi h.2⟩
      · exact h.2.elim
    · exact h.2.elim
theorem g2_ok {dsts:List (Option Nat)} {T:Tm} {g:Option (Nat × Bool)} {g':Option (Nat × Bool)} (h:compG dsts g=some g'):gval T dsts g=g2 T g':=by
  unfold compG at h
  split at h
  · cases h; rfl
  · split at h
    · rename_i d hd
      cases h
      simp only [gval,hd,g2]
      generalize T d=v
      cases v <;> try rfl
    · cases h
theorem aops2_ok {P:Program} {N:Nat} {dm:DM} {dsts:List (Option Nat)} {K:SP}:∀ (l:List Oper) (l2:List Op2) {T:Tm} {H:Hp} {nx:Nat},compL P N dsts l=some l2→aops2 P dm l2 T H nx K→aops P N dm dsts l T H nx K
  | [],l2,T,H,nx,hc,h=>by cases hc; exact h
  | o :: l,l2,T,H,nx,hc,h=>by
    simp only [compL] at hc
    split at hc
    · rename_i o2 r2 ho hr
      cases hc
      unfold compO at ho
      split at ho
      · rename_i hd
        split at ho
        · rename_i g hg
          cases ho
          refine ⟨hd,?_⟩
          rw [g2_ok hg]
          have h:gbind (g2 T g) (ains P dm (compD P o.op) T H nx fun r H nx=>aops2 P dm r2 (updo T o.dst r) H nx K) (aops2 P dm r2 (updo T o.dst (.tup [])) H nx K):=h
          cases hgv:g2 T g with
          | none=>rw [hgv] at h; exact h.elim
          | some b =>
            rw [hgv] at h
            cases b with
            | true =>
              have h:ains P dm (compD P o.op) T H nx fun r H nx=>aops2 P dm r2 (updo T o.dst r) H nx K:=h
              exact aop1_mono (ains_okD h) (fun r H nx hh=>aops2_ok l r2 hr hh)
            | false=>exact aops2_ok l r2 hr h
        · cases ho
      · cases ho
    · cases hc
theorem ains_okM {P:Program} {op:Op} {T:Tm} {H:Hp} {nx:Nat} {K:AV→Hp→Nat→Prop} (h:ains P .text (compD P op) T H nx K):aop1M (vpP P) P op T H nx K:=by
  unfold aop1M
  split
  · rename_i hk0
    have hk:=(vpP_ok P).pure _ hk0
    have hsome:(compI P op).isSome=true:=by
      unfold vpP at hk0
      rw [Bool.or_eq_true,Bool.and_eq_true] at hk0
      rcases hk0 with h | h
      · cases op <;> first | (cases h; done) | rfl
      · exact h.2
    obtain ⟨i,hi⟩:=Option.isSome_iff_exists.1 hsome
    unfold compD at h
    rw [hi] at h
    have h:ains P .text i T H nx K:=h
    unfold compI at hi
    have hic:opIC op=some .val:=by
      unfold opIC
      split
      · simp [opk] at hk
      · rw [hk]
    rw [hic] at hi
    simp only at hi
    split at hi
    · rename_i j hj
      split at hi
      · rename_i hc
        cases hi
        unfold ains at h
        rw [hc] at h
        obtain ⟨_,h⟩:=h
        obtain ⟨r,hr,hk⟩:=obind_elim h
        rw [ival_ok hj hr]; exact hk
      · cases hi
    · cases hi
  · exact ains_okD h
theorem compL_get {P:Program} {N:Nat} {dsts:List (Option Nat)}:∀ {l:List Oper} {l2:List Op2},compL P N dsts l=some l2→∀ {k:Nat} {o:Oper},l[k]?=some o→∃ o2,l2[k]?=some o2∧compO P N dsts o=some o2
  | [],l2,h,k,o,ho=>by simp at ho
  | x :: l,l2,h,k,o,ho=>by
    simp only [compL] at h
    split at h
    · rename_i o2 r2 h1 h2
      cases h
      cases k with
      | zero=>simp at ho; subst ho; exact ⟨o2,rfl,h1⟩
      | succ k =>
        obtain ⟨o3,h3,h4⟩:=compL_get h2 (k:=k) (o:=o) (by simpa using ho)
        exact ⟨o3,by simpa using h3,h4⟩
    · cases h
theorem aopsM_ok {P:Program} {N:Nat} {ops:List Oper} {l:List Op2} (hl:compL P N (ops.map (·.dst)) ops=some l) {K:SP}:∀ (C:List Nat),(∀ k ∈ C,k < ops.length)→∀ {T:Tm} {H:Hp} {nx:Nat},
    aops2 P .text (C.map fun k=>l.getD k ⟨none,none,.dead⟩) T H nx K→aopsM (vpP P) P N (ops.map (·.dst)) (C.map fun k=>ops.getD k default) T H nx K
  | [],_,_,_,_,h=>h
  | k :: C,hC,T,H,nx,h=>by
    have hk:=hC k (by simp)
    obtain ⟨o,ho⟩:=exists_get hk
    obtain ⟨o2,ho2,hc⟩:=compL_get hl ho
    have e1:ops.getD k default=o:=getD_of ho
    have e2:l.getD k ⟨none,none,.dead⟩=o2:=by simp [List.getD,ho2]
    rw [List.map_cons,e1]
    rw [List.map_cons,e2] at h
    unfold compO at hc
    split at hc
    · rename_i hd
      split at hc
      · rename_i g hg
        cases hc
        refine ⟨hd,?_⟩
        rw [g2_ok hg]
        have h:gbind (g2 T g) (ains P .text (compD P o.op) T H nx fun r H nx=>aops2 P .text (C.map fun k=>l.getD k ⟨none,none,.dead⟩) (updo T o.dst r) H nx K) (aops2 P .text (C.map fun k=>l.getD k ⟨none,none,.dead⟩) (updo T o.dst (.tup [])) H nx K):=h
        cases hgv:g2 T g with
        | none=>rw [hgv] at h; exact h.elim
        | some b =>
          rw [hgv] at h
          cases b with
          | true =>
            have h:ains P .text (compD P o.op) T H nx fun r H nx=>aops2 P .text (C.map fun k=>l.getD k ⟨none,none,.dead⟩) (updo T o.dst r) H nx K:=h
            exact aop1M_mono (ains_okM h) (fun r H nx hh=>aopsM_ok hl C (fun q hq=>hC q (by simp [hq])) hh)
          | false=>exact aopsM_ok hl C (fun q hq=>hC q (by simp [hq])) h
      · cases hc
    · cases hc
theorem ibld_ok {P:Program} {op:Op} {T:Tm} {r:AV} (hb:isBld op=true) (hc:(compI P op).isSome=true) (h:ibld T (compD P op)=some r):abld P T op=some r:=by
  obtain ⟨i,hi⟩:=Option.isSome_iff_exists.1 hc
  have hcd:compD P op=i:=by unfold compD; rw [hi]
  rw [hcd] at h
  cases op <;> first | (cases hb; done) | skip
  rename_i t len parts
  have hi2:comp2 P (.buildSlice t len parts)=some i:=by
    unfold compI at hi
    have:opIC (.buildSlice t len parts)=some .eff:=rfl
    rw [this] at hi
    simp only at hi
    split at hi
    · rename_i j hj
      split at hi
      · cases hi; exact hj
      · cases hi
    · cases hi
  unfold abld
  rw [if_pos hb]
  unfold ibld at h
  split at h
  · rename_i sz len' z parts'
    obtain ⟨n,H',k,cs,h1,h2,h3,h4,h5⟩:=bldRes_elim h
    rw [ieff_ok hi2 h1]
    rw [h1] at h
    exact h
  · cases h
theorem aopsS_ok {P:Program} {bp:Op→Bool} {N:Nat} {ops:List Oper} {l:List Op2} (hl:compL P N (ops.map (·.dst)) ops=some l) (hld:(ops.all fun o=>!isLoad o.op || (compI P o.op).isSome)=true) (hbd:(ops.all fun o=>!(bp o.op && isBld o.op) || (compI P o.op).isSome)=true) {S:Hp} {K:SP}:∀ (C:List Nat),(∀ k ∈ C,k < ops.length)→∀ {T:Tm} {H:Hp} {nx:Nat},
    aops2S P S (C.map fun k=>(l.getD k ⟨none,none,.dead⟩,kindS P bp ops k)) T H nx K→aopsN (vpP P) bp P N (ops.map (·.dst)) S (C.map (pairN ops)) T H nx K
  | [],_,_,_,_,h=>h
  | k :: C,hC,T,H,nx,h=>by
    have hk:=hC k (by simp)
    obtain ⟨o,ho⟩:=exists_get hk
    obtain ⟨o2,ho2,hc⟩:=compL_get hl ho
    have e1:ops.getD k default=o:=getD_of ho
    have e2:l.getD k ⟨none,none,.dead⟩=o2:=by simp [List.getD,ho2]
    have hrec:=fun (T:Tm) (H:Hp) (nx:Nat) hh=>aopsS_ok hl hld hbd (S:=S) (K:=K) C (fun q hq=>hC q (by simp [hq])) (T:=T) (H:=H) (nx:=nx) hh
    rw [List.map_cons]
    rw [List.map_cons,e2] at h
    have ep:pairN ops k=(o,keepI ops k):=by unfold pairN; rw [e1]
    have ek:kindS P bp ops k=if (bp o.op && isBld o.op)=true then 3 else if sv (vpP P) o.op=true then 0 else if keepI ops k=true then 1 else 2:=by unfold kindS svP; rw [e1]
    rw [ep]
    rw [ek] at h
    unfold compO at hc
    split at hc
    case isFalse=>cases hc
    rename_i hd
    split at hc
    case h_2=>cases hc
    rename_i g hg
    cases hc
    refine ⟨hd,?_⟩
    show gbind (gval T (ops.map (·.dst)) o.guard) (aop1N (vpP P) bp P S o.op (keepI ops k) T H nx fun r H' nx'=>aopsN (vpP P) bp P N (ops.map (·.dst)) S (C.map (pairN ops)) (updo T o.dst r) H' nx' K) (aopsN (vpP P) bp P N (ops.map (·.dst)) S (C.map (pairN ops)) (updo T o.dst (.tup [])) H nx K)
    rw [g2_ok hg]
    by_cases hbl:(bp o.op && isBld o.op)=true
    · rw [if_pos hbl] at h
      have h:gbind (g2 T g) (obind (ibld T (compD P o.op)) fun r=>aops2S P S (C.map fun k=>(l.getD k ⟨none,none,.dead⟩,kindS P bp ops k)) (updo T o.dst r) H nx K) (aops2S P S (C.map fun k=>(l.getD k ⟨none,none,.dead⟩,kindS P bp ops k)) (updo T o.dst (.tup [])) H nx K):=h
      cases hgv:g2 T g with
      | none=>rw [hgv] at h; exact h.elim
      | some b =>
        rw [hgv] at h
        cases b with
        | false=>exact hrec _ _ _ h
        | true =>
          have h:obind (ibld T (compD P o.op)) fun r=>aops2S P S (C.map fun k=>(l.getD k ⟨none,none,.dead⟩,kindS P bp ops k)) (updo T o.dst r) H nx K:=h
          show aop1N (vpP P) bp P S o.op (keepI ops k) T H nx _
          unfold aop1N
          rw [if_pos (show nv (vpP P) bp o.op=true by unfold nv; rw [hbl,Bool.or_true])]
          obtain ⟨r,hr,hh⟩:=obind_elim h
          rw [Bool.and_eq_true] at hbl
          have hsome:(compI P o.op).isSome=true:=by
            have:=List.all_eq_true.1 hbd o (List.mem_of_getElem? ho)
            rw [hbl.1,hbl.2] at this
            simpa using this
          unfold nval
          rw [if_pos (show (bp o.op && isBld o.op)=true by rw [hbl.1,hbl.2]; rfl),ibld_ok hbl.2 hsome hr]
          exact hrec _ _ _ hh
    have hnv:nv (vpP P) bp o.op=sv (vpP P) o.op:=by
      unfold nv
      cases hb:(bp o.op && isBld o.op) with
      | true=>exact absurd hb hbl
      | false=>rw [Bool.or_false]
    have hnval:nval P bp T S o.op=aval P T S o.op:=by unfold nval; rw [if_neg hbl]
    rw [if_neg hbl] at h
    by_cases hs:sv (vpP P) o.op=true
    · rw [if_pos hs] at h
      have h:gbind (g2 T g) (obind (ival T S (compD P o.op)) fun r=>aops2S P S (C.map fun k=>(l.getD k ⟨none,none,.dead⟩,kindS P bp ops k)) (updo T o.dst r) H nx K) (aops2S P S (C.map fun k=>(l.getD k ⟨none,none,.dead⟩,kindS P bp ops k)) (updo T o.dst (.tup [])) H nx K):=h
      cases hgv:g2 T g with
      | none=>rw [hgv] at h; exact h.elim
      | some b =>
        rw [hgv] at h
        cases b with
        | false=>exact hrec _ _ _ h
        | true =>
          have h:obind (ival T S (compD P o.op)) fun r=>aops2S P S (C.map fun k=>(l.getD k ⟨none,none,.dead⟩,kindS P bp ops k)) (updo T o.dst r) H nx K:=h
          show aop1N (vpP P) bp P S o.op (keepI ops k) T H nx _
          unfold aop1N
          rw [if_pos (hnv.trans hs),hnval]
          obtain ⟨r,hr,hh⟩:=obind_elim h
          have hsome:(compI P o.op).isSome=true:=by
            unfold sv at hs
            rw [Bool.or_eq_true] at hs
            rcases hs with hs | hs
            · unfold vpP at hs
              rw [Bool.or_eq_true,Bool.and_eq_true] at hs
              rcases hs with h | h
              · revert h; cases o.op <;> intro h <;> first | (cases h; done) | rfl
              · exact h.2
            · have:=List.all_eq_true.1 hld o (List.mem_of_getElem? ho)
              rw [hs] at this
              simpa using this
          obtain ⟨i,hi⟩:=Option.isSome_iff_exists.1 hsome
          have hcd:compD P o.op=i:=by unfold compD; rw [hi]
          rw [hcd] at hr
          have hic:opIC o.op=some .val:=by
            unfold sv at hs
            rw [Bool.or_eq_true] at hs
            rcases hs with hs | hs
            · have hk:=(vpP_ok P).pure _ hs
              unfold opIC
              split
              · rename_i heq; rw [heq] at hk; simp [opk] at hk
              · rw [hk]
            · revert hs; cases o.op <;> intro hs <;> first | (cases hs; done) | rfl
          unfold compI at hi
          rw [hic] at hi
          simp only at hi
          split at hi
          · rename_i j hj
            split at hi
            · cases hi
              rw [ival_ok hj hr]; exact hrec _ _ _ hh
            · cases hi
          · cases hi
    · rw [if_neg hs] at h
      obtain ⟨q,hq,hq2,hq3⟩:∃ q,(if keepI ops k=true then 1 else 2)=q + 1∧(keepI ops k=true→q=0)∧q ≠ 2:=by
        by_cases hkk:keepI ops k=true
        · exact ⟨0,by rw [if_pos hkk],fun _=>rfl,by omega⟩
        · exact ⟨1,by rw [if_neg hkk],fun h=>absurd h hkk,by omega⟩
      rw [hq] at h
      simp only [aops2S,if_neg hq3] at h
      have h:gbind (g2 T g) (ains P .text (compD P o.op) T H nx fun r H' nx'=>(q=0→Sub S H')∧aops2S P S (C.map fun k=>(l.getD k ⟨none,none,.dead⟩,kindS P bp ops k)) (updo T o.dst r) H' nx' K) (aops2S P S (C.map fun k=>(l.getD k ⟨none,none,.dead⟩,kindS P bp ops k)) (updo T o.dst (.tup [])) H nx K):=h
      cases hgv:g2 T g with
      | none=>rw [hgv] at h; exact h.elim
      | some b =>
        rw [hgv] at h
        cases b with
        | false=>exact hrec _ _ _ h
        | true =>
          have h:ains P .text (compD P o.op) T H nx fun r H' nx'=>(q=0→Sub S H')∧aops2S P S (C.map fun k=>(l.getD k ⟨none,none,.dead⟩,kindS P bp ops k)) (updo T o.dst r) H' nx' K:=h
          show aop1N (vpP P) bp P S o.op (keepI ops k) T H nx _
          unfold aop1N
          rw [if_neg (by rw [hnv]; exact hs)]
          exact aop1_mono (ains_okD h) (fun r H nx hh=>⟨fun hkk=>hh.1 (hq2 hkk),hrec _ _ _ hh.2⟩)
theorem mixB_ok {P:Program} {bp:Op→Bool} {N:Nat} {rid:Nat} {ops:Array Oper} {l:List Op2} (hl:compL P N (ops.toList.map (·.dst)) ops.toList=some l) (hmx:mixyB P bp N ops.toList=true) {T:Tm} {H:Hp} {nx:Nat} {K:CP}
    (h:awp2 P (.mixS 9 l ((mixCB P bp ops.toList).map fun k=>(k,kindS P bp ops.toList k))) T H nx K):awp P N (.region rid ops true) T H nx K:=by
  unfold mixyB at hmx
  rw [Bool.and_eq_true] at hmx
  obtain ⟨hld,hok⟩:=hmx
  rcases h with ⟨h9,_⟩ | ⟨T,H,nx,Hf,S,hg,hs,h⟩
  · exact absurd rfl h9
  · rw [List.map_map] at h
    rw [List.all_eq_true] at hld
    refine ⟨T,H,nx,Hf,hg,.inr (.inr ⟨_,bp,_,S,vpP_ok P,hok,hs,aopsS_ok hl ?_ ?_ _ (mixNOk_ok hok).lt h⟩)⟩
    · rw [List.all_eq_true]
      intro o ho
      have:=hld o ho
      cases h1:isLoad o.op with
      | false=>rfl
      | true=>rw [h1] at this; simpa using this
    · rw [List.all_eq_true]
      intro o ho
      have:=hld o ho
      cases h1:(bp o.op && isBld o.op) with
      | false=>rfl
      | true=>rw [h1] at this; simpa using this
theorem awp2_ok {P:Program} {N:Nat} (hm:P.follows .mixedOrders=true):∀ (c:Code) (c2:C2) {T:Tm} {H:Hp} {nx:Nat} {K:CP},comp P N c=some c2→awp2 P c2 T H nx K→awp P N c T H nx K
  | .skip,c2,_,_,_,_,hc,h=>by cases hc; exact h
  | .label _,c2,_,_,_,_,hc,h=>by cases hc; exact h
  | .exit _,c2,_,_,_,_,hc,h=>by cases hc; exact h
  | .ret,c2,_,_,_,_,hc,h=>by cases hc; exact h
  | .region _ ops draw,c2,_,_,_,_,hc,h=>by
    simp only [comp] at hc
    split at hc
    · rename_i l hl
      cases draw with
      | true =>
        simp only [if_true] at hc
        split at hc
        · rename_i hmx
          cases hc
          unfold mixyA at hmx
          rw [Bool.and_eq_true] at hmx
          exact mixB_ok hl hmx.2 h
        split at hc
        · rename_i hmx
          cases hc
          unfold mixy at hmx
          rw [Bool.and_eq_true] at hmx
          obtain ⟨_,hok⟩:=hmx
          rcases h with ⟨h9,T,H,nx,Hf,hg,h⟩ | ⟨T,H,nx,Hf,hg,h⟩
          · refine ⟨T,H,nx,Hf,hg,.inl ?_⟩
            split at h9
            · exact absurd rfl h9
            · rename_i ho
              rw [if_neg ho] at h
              split at h9
              · rename_i hd
                rw [if_pos hd] at h ⊢
                exact aops2_ok _ _ hl h
              · rename_i hd
                rw [if_neg hd] at h ⊢
                split at h9
                · rename_i hd2
                  rw [if_pos hd2] at h
                  exact ⟨hd2,aops2_ok _ _ hl h⟩
                · exact absurd rfl h9
          · exact ⟨T,H,nx,Hf,hg,  .inr (.inl ⟨_,_,vpP_ok P,hok,aopsM_ok hl _ (mixOk_ok hok).lt h⟩)⟩
        · split at hc
          · rename_i hmx
            cases hc
            unfold mixyS at hmx
            rw [Bool.and_eq_true,Bool.and_eq_true] at hmx
            obtain ⟨⟨_,hld⟩,hok⟩:=hmx
            rcases h with ⟨h9,T,H,nx,Hf,hg,h⟩ | ⟨T,H,nx,Hf,S,hg,hs,h⟩
            · refine ⟨T,H,nx,Hf,hg,.inl ?_⟩
              split at h9
              · exact absurd rfl h9
              · rename_i ho
                rw [if_neg ho] at h
                split at h9
                · rename_i hd
                  rw [if_pos hd] at h ⊢
                  exact aops2_ok _ _ hl h
                · rename_i hd
                  rw [if_neg hd] at h ⊢
                  split at h9
                  · rename_i hd2
                    rw [if_pos hd2] at h
                    exact ⟨hd2,aops2_ok _ _ hl h⟩
                  · exact absurd rfl h9
            · rw [List.map_map] at h
              exact ⟨T,H,nx,Hf,hg,.inr (.inr ⟨_,fun _=>false,_,S,vpP_ok P,hok,hs,aopsS_ok hl hld (List.all_eq_true.2 fun _ _=>rfl) _ (mixNOk_ok hok).lt h⟩)⟩
          split at hc
          · rename_i hd
            cases hc
            obtain ⟨T,H,nx,Hf,hg,h⟩:=h
            refine ⟨T,H,nx,Hf,hg,?_⟩
            simp only
            rw [if_pos hd]
            exact .inl (aops2_ok _ _ hl h)
          · rename_i hd
            split at hc
            · rename_i hd2
              cases hc
              obtain ⟨T,H,nx,Hf,hg,h⟩:=h
              refine ⟨T,H,nx,Hf,hg,?_⟩
              simp only
              rw [if_neg hd]
              exact .inl ⟨hd2,aops2_ok _ _ hl h⟩
            · split at hc
              · rename_i hmx
                cases hc
                exact mixB_ok hl hmx h
              · cases hc
      | false =>
        simp only [Bool.false_eq_true,if_false] at hc
        cases hc
        obtain ⟨T,H,nx,Hf,hg,h⟩:=h
        exact ⟨T,H,nx,Hf,hg,aops2_ok _ _ hl h⟩
    · cases hc
  | .seq a b,c2,_,_,_,K,hc,h=>by
    simp only [comp] at hc
    split at hc
    · rename_i a2 b2 ha hb
      cases hc
      refine awp_mono a (awp2_ok hm a a2 ha h) (fun e T H nx h=>?_)
      cases e with
      | normal=>exact awp2_ok hm b b2 hb h
      | exit i=>exact h
      | ret=>exact h
    · cases hc
  | .cond c a b,c2,_,_,_,K,hc,h=>by
    simp only [comp] at hc
    split at hc
    · rename_i a2 b2 ha hb
      cases hc
      simp only [awp2,ov_of] at h
      simp only [awp]
      unfold acond at h ⊢
      split at h
      · exact ⟨fun hh=>awp2_ok hm a a2 ha (h.1 hh),fun hh=>awp2_ok hm b b2 hb (h.2 hh)⟩
      · exact h
    · cases hc
  | .block id b,c2,_,_,_,K,hc,h=>by
    simp only [comp] at hc
    split at hc
    · rename_i b2 hb
      cases hc
      exact awp2_ok hm b b2 hb h
    · cases hc
  | .loop b,c2,T,H,nx,K,hc,h=>by
    simp only [comp] at hc
    split at hc
    · rename_i b2 hb
      cases hc
      obtain ⟨n,h⟩:=h
      refine ⟨n,?_⟩
      induction n generalizing T H nx with
      | zero=>exact h
      | succ n ih =>
        obtain ⟨T',H',nx',Hf,hg,h⟩:=h
        refine ⟨T',H',nx',Hf,hg,awp_mono b (awp2_ok hm b b2 hb h) (fun e T H nx h=>?_)⟩
        cases e with
        | normal=>exact ih _ _ _ h
        | exit i=>exact h
        | ret=>exact h
    · cases hc
  | .rangeFunc g ps a b,c2,T,H,nx,K,hc,h=>by
    simp only [comp] at hc
    split at hc
    case isFalse=>cases hc
    case isTrue hps =>
    split at hc
    · rename_i a2 b2 ha hb
      cases hc
      obtain ⟨f,caps,h1,h2⟩:=h
      rw [ov_of] at h1
      show RF P N _ T H nx K
      refine RF_of h1 (fun r hr=>?_)
      refine h2 (.oloop r T) (leftBox r T) (fun args H' nx' K' hH hl hw=>?_)
      refine Yl.of_awp hr hm (fun t ht=>by simpa using List.all_eq_true.1 hps t ht) hH (by simpa using hl) (awp_mono a (awp2_ok hm a a2 ha hw) (fun e T2 H2 nx2 h=>?_))
      cases e with
      | normal=>exact ⟨h.1,awp2_ok hm b b2 hb h.2⟩
      | exit i=>exact h
      | ret=>exact h
    · cases hc
  | .scope _,_,_,_,_,_,hc,_=>by cases hc
  | .goto _,_,_,_,_,_,hc,_=>by cases hc
  | .refuse _,_,_,_,_,_,hc,_=>by cases hc
inductive RV where
  | t (n:Nat)
  | c1 (n:Nat)
  | cn (n k:Nat)
structure F2 where
  n:Nat
  res:List RV
  body:C2
def compR (P:Program):List ResultVar→Option (List RV)
  | []=>some []
  | .tmp t :: l=>match compR P l with | some l=>some (.t t :: l) | none=>none
  | .cell a t :: l=>if tok P t=true then (match compR P l with
    | some l=>if tagg P t=true then (if 0 < P.cellsOf t then some (.cn a (P.cellsOf t) :: l) else none) else some (.c1 a :: l)
    | none=>none) else none
def compF (P:Program) (fn:Func):Option F2 :=
  match fn.body with
  | some c=>if fn.name == "runtime.NumGoroutine" then none else match comp P fn.ntmps c,compR P fn.results.toList with
    | some b,some r=>some ⟨fn.ntmps,r,b⟩
    | _,_=>none
  | none=>none
def rv (T:Tm) (H:Hp):RV→Option AV
  | .t n=>some (T n)
  | .c1 n=>rd1 H (T n)
  | .cn n k=>(rd H k (T n)).map .agg
def resL (T:Tm) (H:Hp):List RV→(List AV→Prop)→Prop
  | [],K=>K []
  | a :: l,K=>obind (rv T H a) fun x=>resL T H l fun xs=>K (x :: xs)
def res1 (T:Tm) (H:Hp) (K:AV→Prop):List RV→Prop
  | [a]=>obind (rv T H a) K
  | [a,b]=>obind (rv T H a) fun x=>obind (rv T H b) fun y=>K (.tup [x,y])
  | [a,b,c]=>obind (rv T H a) fun x=>obind (rv T H b) fun y=>obind (rv T H c) fun z=>K (.tup [x,y,z])
  | []=>K (.tup [])
  | a :: b :: c :: d :: l=>resL T H (a :: b :: c :: d :: l) fun xs=>K (.tup xs)
theorem rv_ok {P:Program} {T:Tm} {H:Hp} {r:ResultVar} {l:List ResultVar} {x:RV} {xs:List RV} {v:AV} (h:compR P (r :: l)=some (x :: xs)) (hv:rv T H x=some v) :
    compR P l=some xs∧ares P T H (r :: l)=(match ares P T H l with | some ys=>some (v :: ys) | none=>none):=by
  cases r with
  | tmp t =>
    simp only [compR] at h
    split at h
    · rename_i ys hy
      cases h
      cases hv
      exact ⟨hy,rfl⟩
    · cases h
  | cell a t =>
    simp only [compR] at h
    split at h
    · rename_i h1
      split at h
      · rename_i ys hy
        split at h
        · rename_i h2
          split at h
          · rename_i h3
            cases h
            refine ⟨hy,?_⟩
            simp only [rv] at hv
            simp only [ares,aload,h1,h2,if_true,if_pos h3,hv]
            cases ares P T H l <;> rfl
          · cases h
        · rename_i h2
          cases h
          refine ⟨hy,?_⟩
          simp only [rv] at hv
          simp only [ares,aload,h1,h2,if_true,hv]
          cases ares P T H l <;> rfl
      · cases h
    · cases h
theorem compR_nil {P:Program} {l:List ResultVar} (h:compR P l=some []):l=[]:=by
  cases l with
  | nil=>rfl
  | cons r l =>
    cases r with
    | tmp t=>simp only [compR] at h; split at h <;> cases h
    | cell a t =>
      simp only [compR] at h
      split at h
      · split at h
        · split at h
          · split at h <;> cases h
          · cases h
        · cases h
      · cases h
theorem compR_cons {P:Program} {l:List ResultVar} {x:RV} {xs:List RV} (h:compR P l=some (x :: xs)):∃ r l',l=r :: l':=by
  cases l with
  | nil=>cases h
  | cons r l=>exact ⟨r,l,rfl⟩
theorem resL_ok {P:Program} {T:Tm} {H:Hp}:∀ {r:List RV} {l:List ResultVar} {K:List AV→Prop},compR P l=some r→resL T H r K→∃ xs,ares P T H l=some xs∧xs.length=r.length∧K xs
  | [],l,K,h,hk=>by
    have:=compR_nil h; subst this; exact ⟨[],rfl,rfl,hk⟩
  | a :: r,l,K,h,hk=>by
    obtain ⟨r1,l1,rfl⟩:=compR_cons h
    have hk:obind (rv T H a) fun x=>resL T H r fun xs=>K (x :: xs):=hk
    cases hv:rv T H a with
    | none=>rw [hv] at hk; exact hk.elim
    | some v =>
      rw [hv] at hk
      obtain ⟨h1,e1⟩:=rv_ok h hv
      obtain ⟨xs,h2,h3,h4⟩:=resL_ok h1 hk
      exact ⟨v :: xs,by rw [e1,h2],by simp [h3],h4⟩
theorem res1_ok {P:Program} {T:Tm} {H:Hp} {K:AV→Prop} {l:List ResultVar} {r:List RV} (h:compR P l=some r) (hk:res1 T H K r):obind (ares1 P T H l) K:=by
  have one:∀ {x:RV} {K':AV→Prop},obind (rv T H x) K'→∃ v,rv T H x=some v∧K' v:=by
    intro x K' h
    cases hv:rv T H x with
    | none=>rw [hv] at h; exact h.elim
    | some v=>rw [hv] at h; exact ⟨v,rfl,h⟩
  rcases r with _ | ⟨a,_ | ⟨b,_ | ⟨c,_ | ⟨d,r⟩⟩⟩⟩
  · have:=compR_nil h; subst this; exact hk
  · obtain ⟨r1,l1,rfl⟩:=compR_cons h
    obtain ⟨v,hv,hk⟩:=one hk
    obtain ⟨h1,e1⟩:=rv_ok h hv
    have:=compR_nil h1; subst this
    simp only [ares1,e1,ares]; exact hk
  · obtain ⟨r1,l1,rfl⟩:=compR_cons h
    obtain ⟨v,hv,hk⟩:=one hk
    obtain ⟨h1,e1⟩:=rv_ok h hv
    obtain ⟨r2,l2,rfl⟩:=compR_cons h1
    obtain ⟨v2,hv2,hk⟩:=one hk
    obtain ⟨h2,e2⟩:=rv_ok h1 hv2
    have:=compR_nil h2; subst this
    simp only [ares1,e1,e2,ares]; exact hk
  · obtain ⟨r1,l1,rfl⟩:=compR_cons h
    obtain ⟨v,hv,hk⟩:=one hk
    obtain ⟨h1,e1⟩:=rv_ok h hv
    obtain ⟨r2,l2,rfl⟩:=compR_cons h1
    obtain ⟨v2,hv2,hk⟩:=one hk
    obtain ⟨h2,e2⟩:=rv_ok h1 hv2
    obtain ⟨r3,l3,rfl⟩:=compR_cons h2
    obtain ⟨v3,hv3,hk⟩:=one hk
    obtain ⟨h3,e3⟩:=rv_ok h2 hv3
    have:=compR_nil h3; subst this
    simp only [ares1,e1,e2,e3,ares]; exact hk
  · have hk:resL T H (a :: b :: c :: d :: r) fun xs=>K (.tup xs):=hk
    obtain ⟨xs,h1,h2,h3⟩:=resL_ok h hk
    unfold ares1
    rw [h1]
    rcases xs with _ | ⟨x,_ | ⟨y,xs⟩⟩
    · simp at h2
    · simp at h2
    · exact h3
structure Is (P:Program) (f:FuncId) (F:F2):Prop where
  out:∃ fn,P.funcs[f]?=some fn∧compF P fn=some F
theorem Is.mk' {P:Program} {f:FuncId} {F:F2} {fn:Func} (h1:P.funcs[f]?=some fn) (h2:compF P fn=some F):Is P f F:=⟨fn,h1,h2⟩
theorem Is.cok {P:Program} {f:FuncId} {F:F2} (h:Is P f F):cok P f=true:=by
  obtain ⟨fn,h1,h2⟩:=h.out
  unfold compF at h2
  split at h2
  · rename_i c hc
    split at h2
    · cases h2
    · rename_i hn
      unfold Go.Abs.cok
      simp only [h1,hc,Option.isSome_some,Bool.true_and,Bool.not_eq_true']
      simpa using hn
  · cases h2
theorem Is.bodyOk {P:Program} {f:FuncId} {F:F2} (h:Is P f F) (hm:P.follows .mixedOrders=true) {args:List AV} {H:Hp} {nx:Nat} {K:AV→Hp→Nat→Prop} (hl:args.length ≤ F.n)
    (hb:awp2 P F.body (T0 args) H nx fun e T H nx=>bbind e.ends (res1 T H (fun x=>K x H nx) F.res)):∃ fn,P.funcs[f]?=some fn∧BodyOk P fn args H nx K:=by
  obtain ⟨fn,h1,h2⟩:=h.out
  refine ⟨fn,h1,?_⟩
  unfold compF at h2
  split at h2
  · rename_i c hc
    split at h2
    · cases h2
    · split at h2
      · rename_i b r hb' hr
        cases h2
        exact ⟨c,hc,hl,awp_mono c (awp2_ok hm c b hb' hb) (fun e T H nx hh=>⟨hh.1,res1_ok hr hh.2⟩)⟩
      · cases h2
  · cases h2
theorem Pure.of_c2 {P:Program} {f:FuncId} {F:F2} {args:List AV} {r:AV} (hm:P.follows .mixedOrders=true) (hf:Is P f F) (hl:args.length ≤ F.n)
    (hb:awp2 P F.body (T0 args) noBoxes 0 fun e T H nx=>bbind e.ends (res1 T H (fun x=>Snap H x r) F.res)):Pure P f args r:=by
  obtain ⟨fn,h1,h2⟩:=hf.bodyOk hm (K:=fun x H nx=>Snap H x r) hl hb
  exact Pure.of_body hm h1 hf.cok h2
theorem Fn.of_c2 {P:Program} {f:FuncId} {F:F2} {args:List AV} {H:Hp} {nx:Nat} {K:AV→Hp→Nat→Prop} (hm:P.follows .mixedOrders=true) (hf:Is P f F) (hl:args.length ≤ F.n)
    (hb:awp2 P F.body (T0 args) H nx fun e T H nx=>bbind e.ends (res1 T H (fun x=>K x H nx) F.res)):Fn P f args H nx K:=by
  obtain ⟨fn,h1,h2⟩:=hf.bodyOk hm (K:=K) hl hb
  exact Fn.of_body hm h1 hf.cok h2
theorem PureF.of_c2 {P:Program} {f:FuncId} {F:F2} {args:List AV} {r:AV} (hm:P.follows .mixedOrders=true) (hf:Is P f F) (hl:args.length ≤ F.n)
    (hb:awp2 P F.body (T0 args) noBoxes 0 fun e T H nx=>bbind e.ends (res1 T H (fun x=>SnapF H x r) F.res)):PureF P f args r :=
  PureF.of_fn (Fn.of_c2 hm hf hl hb)
end Go.Abs
namespace Go.Abs
open Go.RowKit
theorem isp_mono {i:Ins} {T:Tm} {H:Hp} {nx:Nat} {K K':AV→Hp→Nat→Prop} (h:isp i T H nx K) (hK:∀ r H nx,K r H nx→K' r H nx):isp i T H nx K':=by
  cases i <;> first | exact h | skip
  · exact ⟨h.1,hK _ _ _ h.2⟩
  · obtain ⟨b,ks,vs,r,h1,h2,h3,h4,h5⟩:=h; exact ⟨b,ks,vs,r,h1,h2,h3,h4,hK _ _ _ h5⟩
  · obtain ⟨b,ks,vs,r,h1,h2,h3,h4,h5⟩:=h; exact ⟨b,ks,vs,r,h1,h2,h3,h4,hK _ _ _ h5⟩
  · obtain ⟨b,ks,vs,h1,h2,h3⟩:=h; exact ⟨b,ks,vs,h1,h2,hK _ _ _ h3⟩
  · obtain ⟨b,ks,vs,h1,h2,h3⟩:=h; exact ⟨b,ks,vs,h1,h2,hK _ _ _ h3⟩
  · obtain ⟨b,m,n0,seen,ks,vs,h1,h2,h3,hn,h4,h5⟩:=h; exact ⟨b,m,n0,seen,ks,vs,h1,h2,h3,hn,fun i hi hs=>hK _ _ _ (h4 i hi hs),fun h=>hK _ _ _ (h5 h)⟩
  · obtain ⟨b,m,n0,i,seen,ks,vs,h1,h2,h3,h4,h5,h6,h7⟩:=h; exact ⟨b,m,n0,i,seen,ks,vs,h1,h2,h3,h4,h5,h6,hK _ _ _ h7⟩
  · obtain ⟨n,H',h1,h2⟩:=h; exact ⟨n,H',h1,hK _ _ _ h2⟩
  · obtain ⟨H',h1,h2⟩:=h; exact ⟨H',h1,hK _ _ _ h2⟩
  · obtain ⟨k,h1,h2⟩:=h; exact ⟨k,h1,fun h=>hK _ _ _ (h2.1 h),fun h=>⟨hK _ _ _ (h2.2 h).1,hK _ _ _ (h2.2 h).2⟩⟩
  · obtain ⟨bs,h1,h2,h3⟩:=h; exact ⟨bs,h1,fun h=>hK _ _ _ (h2 h),fun h=>hK _ _ _ (h3 h)⟩
  · obtain ⟨n,bs,h1,h2⟩:=h; exact ⟨n,bs,h1,hK _ _ _ h2⟩
  · obtain ⟨b,ks,vs,r,h1,h2,h3,h4,h5⟩:=h; exact ⟨b,ks,vs,r,h1,h2,h3,h4,hK _ _ _ h5⟩
  · obtain ⟨b,ks,vs,i,h1,h2,h3,h4,h5⟩:=h; exact ⟨b,ks,vs,i,h1,h2,h3,h4,hK _ _ _ h5⟩
theorem ains_mono {P:Program} {dm:DM} {i:Ins} {T:Tm} {H:Hp} {nx:Nat} {K K':AV→Hp→Nat→Prop} (h:ains P dm i T H nx K) (hK:∀ r H nx,K r H nx→K' r H nx):ains P dm i T H nx K':=by
  unfold ains at h ⊢
  split at h
  · exact ⟨h.1,obind_mono (fun a=>hK _ _ _) h.2⟩
  · exact ⟨h.1,obind_mono (fun a=>hK _ _ _) h.2⟩
  · split at h
    · rcases h with h | ⟨h1,⟨b,h2,h3⟩ | ⟨g,fs,h2,h3⟩⟩
      · left
        refine obind_mono (fun b=>?_) h
        intro h
        cases hd:dm.isText with
        | false=>rw [hd] at h; obtain ⟨r,h1,h3⟩:=h; exact ⟨r,h1,hK _ _ _ h3⟩
        | true=>rw [hd] at h; exact Fn.mono h hK
      · exact .inr ⟨h1,.inl ⟨b,h2,h3.mono hK⟩⟩
      · exact .inr ⟨h1,.inr ⟨g,fs,h2,h3.mono hK⟩⟩
    · exact h
  · exact ⟨h.1,isp_mono h.2 hK⟩
theorem aops2_mono {P:Program} {dm:DM} {K K':SP} (hK:∀ T H nx,K T H nx→K' T H nx):∀ (l:List Op2) {T:Tm} {H:Hp} {nx:Nat},aops2 P dm l T H nx K→aops2 P dm l T H nx K'
  | [],_,_,_,h=>hK _ _ _ h
  | o :: l,T,H,nx,h=>by
    have h:gbind (g2 T o.g) (ains P dm o.i T H nx fun r H nx=>aops2 P dm l (updo T o.d r) H nx K) (aops2 P dm l (updo T o.d (.tup [])) H nx K):=h
    show gbind (g2 T o.g) (ains P dm o.i T H nx fun r H nx=>aops2 P dm l (updo T o.d r) H nx K') (aops2 P dm l (updo T o.d (.tup [])) H nx K')
    cases hg:g2 T o.g with
    | none=>rw [hg] at h; exact h.elim
    | some b =>
      rw [hg] at h
      cases b with
      | true =>
        have h:ains P dm o.i T H nx fun r H nx=>aops2 P dm l (updo T o.d r) H nx K:=h
        exact ains_mono h (fun _ _ _ hh=>aops2_mono hK l hh)
      | false=>exact aops2_mono hK l h
theorem aops2S_mono {P:Program} {S:Hp} {K K':SP} (hK:∀ T H nx,K T H nx→K' T H nx):∀ (l:List (Op2 × Nat)) {T:Tm} {H:Hp} {nx:Nat},aops2S P S l T H nx K→aops2S P S l T H nx K'
  | [],_,_,_,h=>hK _ _ _ h
  | (o,0) :: l,T,H,nx,h=>by
    simp only [aops2S] at h ⊢
    cases hg:g2 T o.g with
    | none=>rw [hg] at h; exact h.elim
    | some b =>
      rw [hg] at h
      cases b with
      | true =>
        have h:obind (ival T S o.i) fun r=>aops2S P S l (updo T o.d r) H nx K:=h
        show obind (ival T S o.i) fun r=>aops2S P S l (updo T o.d r) H nx K'
        obtain ⟨r,hr,hh⟩:=obind_elim h
        rw [hr]; exact aops2S_mono hK l hh
      | false=>exact aops2S_mono hK l h
  | (o,k + 1) :: l,T,H,nx,h=>by
    simp only [aops2S] at h ⊢
    cases hg:g2 T o.g with
    | none=>rw [hg] at h; exact h.elim
    | some b =>
      rw [hg] at h
      cases b with
      | true =>
        have h:if k=2 then obind (ibld T o.i) fun r=>aops2S P S l (updo T o.d r) H nx K else ains P .text o.i T H nx fun r H' nx'=>(k=0→Sub S H')∧aops2S P S l (updo T o.d r) H' nx' K:=h
        show if k=2 then obind (ibld T o.i) fun r=>aops2S P S l (updo T o.d r) H nx K' else ains P .text o.i T H nx fun r H' nx'=>(k=0→Sub S H')∧aops2S P S l (updo T o.d r) H' nx' K'
        split
        · rename_i hk
          rw [if_pos hk] at h
          obtain ⟨r,hr,hh⟩:=obind_elim h
          rw [hr]; exact aops2S_mono hK l hh
        · rename_i hk
          rw [if_neg hk] at h
          exact ains_mono h (fun _ _ _ hh=>⟨hh.1,aops2S_mono hK l hh.2⟩)
      | false=>exact aops2S_mono hK l h
theorem awp2_mono {P:Program}:∀ (c:C2) {T:Tm} {H:Hp} {nx:Nat} {K K':CP},awp2 P c T H nx K→(∀ e T H nx,K e T H nx→K' e T H nx)→awp2 P c T H nx K'
  | .skip,_,_,_,_,_,h,hK=>hK _ _ _ _ h
  | .exit _,_,_,_,_,_,h,hK=>hK _ _ _ _ h
  | .ret,_,_,_,_,_,h,hK=>hK _ _ _ _ h
  | .ops m l,_,_,_,_,_,h,hK=>let ⟨T,H,nx,Hf,hg,h⟩:=h; ⟨T,H,nx,Hf,hg,aops2_mono (hK .normal) l h⟩
  | .mix m l C,_,_,_,_,_,h,hK=>h.imp (fun ⟨h9,T,H,nx,Hf,hg,h⟩=>⟨h9,T,H,nx,Hf,hg,aops2_mono (hK .normal) l h⟩) (fun ⟨T,H,nx,Hf,hg,h⟩=>⟨T,H,nx,Hf,hg,aops2_mono (hK .normal) _ h⟩)
  | .mixS m l C,_,_,_,_,_,h,hK=>h.imp (fun ⟨h9,T,H,nx,Hf,hg,h⟩=>⟨h9,T,H,nx,Hf,hg,aops2_mono (hK .normal) l h⟩) (fun ⟨T,H,nx,Hf,S,hg,hs,h⟩=>⟨T,H,nx,Hf,S,hg,hs,aops2S_mono (hK .normal) _ h⟩)
  | .seq x y,_,_,_,K,K',h,hK=>by
    refine awp2_mono x h (fun e T H nx h=>?_)
    cases e with
    | normal=>exact awp2_mono y h hK
    | exit i=>exact hK _ _ _ _ h
    | ret=>exact hK _ _ _ _ h
  | .cond c x y,T,H,nx,K,K',h,hK=>by
    simp only [awp2] at h ⊢
    unfold acond at h ⊢
    split at h
    · exact ⟨fun hb=>awp2_mono x (h.1 hb) hK,fun hb=>awp2_mono y (h.2 hb) hK⟩
    · exact h
  | .block id b,_,_,_,_,_,h,hK=>awp2_mono b h (fun e T H nx h=>hK _ _ _ _ h)
  | .loop b,T,H,nx,K,K',h,hK=>by
    obtain ⟨n,h⟩:=h
    refine ⟨n,?_⟩
    induction n generalizing T H nx with
    | zero=>exact h
    | succ n ih =>
      obtain ⟨T',H',nx',Hf,hw,h⟩:=h
      refine ⟨T',H',nx',Hf,hw,awp2_mono b h (fun e T H nx h=>?_)⟩
      cases e with
      | normal=>exact ih _ _ _ h
      | exit i=>exact hK _ _ _ _ h
      | ret=>exact hK _ _ _ _ h
  | .rangeF g ps a b,T,H,nx,K,K',h,hK=>by
    obtain ⟨f,caps,h1,h2⟩:=h
    refine ⟨f,caps,h1,fun c0 cj hy=>Fn.mono (h2 c0 cj hy) ?_⟩
    rintro r H' nx' (⟨k1,k2⟩ | ⟨e,k1,k2,k3⟩)
    · exact .inl ⟨k1,hK _ _ _ _ k2⟩
    · exact .inr ⟨e,k1,k2,hK _ _ _ _ k3⟩
theorem loopG {P:Program} {b:C2} {T:Tm} {H:Hp} {nx:Nat} {K:CP} {X:Type} (TT:X→Tm) (HH:X→Hp) (NX:X→Nat) (φ:X→Prop) (μ:X→Nat)
    (start:∃ x,φ x∧∃ Hf,Gh T H nx (TT x) (HH x) (NX x) Hf)
    (step:∀ x,φ x→awp2 P b (TT x) (HH x) (NX x) fun e T H nx=>athen e (∃ y,φ y∧μ y < μ x∧∃ Hf,Gh T H nx (TT y) (HH y) (NX y) Hf) (K e T H nx)):aloop (awp2 P b) T H nx K:=by
  have key:∀ n x T H nx,μ x < n→φ x→(∃ Hf,Gh T H nx (TT x) (HH x) (NX x) Hf)→aloopN (awp2 P b) K n T H nx:=by
    intro n
    induction n with
    | zero=>intro x T H nx h; omega
    | succ n ih =>
      intro x T H nx hn hx ⟨Hf,hg⟩
      refine ⟨_,_,_,Hf,hg,awp2_mono b (step x hx) (fun e T H nx h=>?_)⟩
      cases e with
      | normal =>
        obtain ⟨y,h1,h2,h3⟩:=h
        exact ih y T H nx (by omega) h1 h3
      | exit i=>exact h
      | ret=>exact h
  obtain ⟨x,hx,hg⟩:=start
  exact ⟨_,key _ x T H nx (Nat.lt_succ_self _) hx hg⟩
def tl:List (Nat × AV)→Tm
  | [],_=>.undef
  | (d,v) :: l,t=>if t=d then v else tl l t
def agr (T:Tm):List (Nat × AV)→Prop
  | []=>True
  | (d,v) :: l=>T d=v∧agr T l
theorem agr_tl {T:Tm}:∀ {l:List (Nat × AV)},agr T l→∀ t,tl l t=.undef ∨ tl l t=T t
  | [],_,t=>.inl rfl
  | (d,v) :: l,h,t=>by
    simp only [tl]
    split
    · rename_i e; subst e; exact .inr h.1.symm
    · exact agr_tl h.2 t
theorem Gh.weak {T T':Tm} {H:Hp} {nx:Nat} (h:∀ t,T' t=.undef ∨ T' t=T t):Gh T H nx T' H nx noBoxes :=
  ⟨fun _ _ h=>(by cases h),Nat.le_refl _,fun b cs h=>.inl ⟨cs,h,rfl,rfl,fun i x x' h1 h2=>.inl (by rw [h1] at h2; cases h2; rfl)⟩,fun t=>(h t).imp id .inl⟩
theorem loop0 {P:Program} {b:C2} {T:Tm} {H:Hp} {nx:Nat} {K:CP} {X:Type} (L:X→List (Nat × AV)) (φ:X→Prop) (μ:X→Nat) (x0:X)
    (h0:φ x0) (hT:agr T (L x0))
    (step:∀ x,φ x→awp2 P b (tl (L x)) H nx fun e T H' nx'=>athen e (∃ y,φ y∧μ y < μ x∧agr T (L y)∧H'=H∧nx'=nx) (K e T H' nx')):aloop (awp2 P b) T H nx K:=by
  refine loopG (fun x=>tl (L x)) (fun _=>H) (fun _=>nx) φ μ ⟨x0,h0,_,Gh.weak (agr_tl hT)⟩ (fun x hx=>awp2_mono b (step x hx) (fun e T H' nx' h=>?_))
  cases e with
  | normal =>
    obtain ⟨y,h1,h2,h3,rfl,rfl⟩:=h
    exact ⟨y,h1,h2,_,Gh.weak (agr_tl h3)⟩
  | exit i=>exact h
  | ret=>exact h
@[congr] theorem aloop_congr {b:Tm→Hp→Nat→CP→Prop} {T:Tm} {H:Hp} {nx nx':Nat} {K:CP} (h:nx=nx'):aloop b T H nx K=aloop b T H nx' K:=by rw [h]
@[congr] theorem awp2_congr {P P':Program} {c:C2} {T:Tm} {H:Hp} {nx:Nat} {K:CP} (h:P=P'):awp2 P c T H nx K=awp2 P' c T H nx K:=by rw [h]
@[congr] theorem aops2_congr {P P':Program} {dm:DM} {l:List Op2} {T:Tm} {H:Hp} {nx:Nat} {K:SP} (h:P=P'):aops2 P dm l T H nx K=aops2 P' dm l T H nx K:=by rw [h]
@[congr] theorem ains_congr {P P':Program} {dm:DM} {i:Ins} {T:Tm} {H:Hp} {nx:Nat} {K:AV→Hp→Nat→Prop} (h:P=P'):ains P dm i T H nx K=ains P' dm i T H nx K:=by rw [h]
theorem bin_lss {k:IntKind} {a b:Int} {tb tf:Bool}:abin2 .lss tb tf (.int k a) (.int k b)=some (.bool (decide (a < b))):=by simp [abin2,aarith]
theorem bin_leq {k:IntKind} {a b:Int} {tb tf:Bool}:abin2 .leq tb tf (.int k a) (.int k b)=some (.bool (decide (a ≤ b))):=by simp [abin2,aarith]
theorem bin_gtr {k:IntKind} {a b:Int} {tb tf:Bool}:abin2 .gtr tb tf (.int k a) (.int k b)=some (.bool (decide (a > b))):=by simp [abin2,aarith]
theorem bin_geq {k:IntKind} {a b:Int} {tb tf:Bool}:abin2 .geq tb tf (.int k a) (.int k b)=some (.bool (decide (a ≥ b))):=by simp [abin2,aarith]
theorem bin_eql {k:IntKind} {a b:Int} {tb tf:Bool}:abin2 .eql tb tf (.int k a) (.int k b)=some (.bool (decide (a=b))):=by
  simp only [abin2,aarith]; simp; by_cases h:a=b <;> simp [h]
theorem bin_neq {k:IntKind} {a b:Int} {tb tf:Bool}:abin2 .neq tb tf (.int k a) (.int k b)=some (.bool (decide (a ≠ b))):=by
  simp [abin2,aarith,bne]; rfl
theorem bin_add {k:IntKind} {a b:Int} {tb tf:Bool}:abin2 .add tb tf (.int k a) (.int k b)=some (.int k (k.wrap (a + b))):=by simp [abin2,aarith]
theorem bin_sub {k:IntKind} {a b:Int} {tb tf:Bool}:abin2 .sub tb tf (.int k a) (.int k b)=some (.int k (k.wrap (a - b))):=by simp [abin2,aarith]
theorem bin_mul {k:IntKind} {a b:Int} {tb tf:Bool}:abin2 .mul tb tf (.int k a) (.int k b)=some (.int k (k.wrap (a * b))):=by simp [abin2,aarith]
theorem wrap64 {a:Int} (h1:-9223372036854775808 ≤ a) (h2:a ≤ 9223372036854775807):IntKind.wrap .i64 a=a:=by
  rw [IntKind.wrap_i64]; omega
end Go.Abs
namespace Go.Abs
open Go.RowKit
variable {P:Program} {T:Tm} {H:Hp} {nx:Nat}
theorem w_skip {K:CP} (h:K .normal T H nx):awp2 P .skip T H nx K:=h
theorem w_exit {K:CP} {i:Nat} (h:K (.exit i) T H nx):awp2 P (.exit i) T H nx K:=h
theorem w_ret {K:CP} (h:K .ret T H nx):awp2 P .ret T H nx K:=h
theorem w_ops0 {K:CP} {l:List Op2} (h:aops2 P .text l T H nx fun T H nx=>K .normal T H nx):awp2 P (.ops 0 l) T H nx K:=⟨T,H,nx,_,Gh.refl _ _ _,h⟩
theorem w_mixS1 {K:CP} {l:List Op2} {C:List (Nat × Nat)} (h:aops2 P .draw l T H nx fun T H nx=>K .normal T H nx):awp2 P (.mixS 1 l C) T H nx K:=.inl ⟨by decide,T,H,nx,_,Gh.refl _ _ _,h⟩
theorem w_mixS (S:Hp) {K:CP} {m:Nat} {l:List Op2} {alt:List (Op2 × Nat)} {C:List (Nat × Nat)} (ha:(C.map fun k=>(l.getD k.1 ⟨none,none,.dead⟩,k.2))=alt) (hs:Sub S H) (h:aops2S P S alt T H nx fun T H nx=>K .normal T H nx):awp2 P (.mixS m l C) T H nx K:=by
  subst ha
  exact .inr ⟨T,H,nx,_,S,Gh.refl _ _ _,hs,h⟩
theorem n_val {S:Hp} {K:SP} {l:List (Op2 × Nat)} {d:Option Nat} {i:Ins} {r:AV} (h:ival T S i=some r) (k:aops2S P S l (updo T d r) H nx K):aops2S P S ((⟨d,none,i⟩,0) :: l) T H nx K:=by
  show obind (ival T S i) fun r=>aops2S P S l (updo T d r) H nx K
  rw [h]; exact k
theorem n_bld {S:Hp} {K:SP} {l:List (Op2 × Nat)} {d:Option Nat} {len:Nat} {z cs:List AV} {parts:List (Nat × Nat × Opd)} {pv:List (Nat × Nat × AV)} (hp:parts.map (fun p=>(p.1,p.2.1,ov T p.2.2))=pv) (hc:afill2 (zcells (.agg z) len) pv=some cs) (hl:len ≠ 0) (hn:cs.length=len) (ho:cs.all AV.one=true)
    (k:aops2S P S l (updo T d (.sl 1 cs)) H nx K):aops2S P S ((⟨d,none,.bldS 1 len z parts⟩,3) :: l) T H nx K:=by
  show obind (ibld T (.bldS 1 len z parts)) _
  have:ibld T (.bldS 1 len z parts)=some (.sl 1 cs):=by
    simp only [ibld,ieff,hl,if_false,hp,hc,bldRes,hupd,if_true,hn]
    rw [if_pos ⟨trivial,hl,ho⟩]
  rw [this]; exact k
theorem n_keep {S:Hp} {K:SP} {l:List (Op2 × Nat)} {d:Option Nat} {i:Ins} (k:aops2 P .text [⟨d,none,i⟩] T H nx fun T H nx=>Sub S H∧aops2S P S l T H nx K):aops2S P S ((⟨d,none,i⟩,1) :: l) T H nx K:=by
  have k:ains P .text i T H nx fun r H nx=>Sub S H∧aops2S P S l (updo T d r) H nx K:=k
  show ains P .text i T H nx fun r H' nx'=>(0=0→Sub S H')∧aops2S P S l (updo T d r) H' nx' K
  exact ains_mono k (fun _ _ _ h=>⟨fun _=>h.1,h.2⟩)
theorem n_any {S:Hp} {K:SP} {l:List (Op2 × Nat)} {d:Option Nat} {i:Ins} (k:aops2 P .text [⟨d,none,i⟩] T H nx fun T H nx=>aops2S P S l T H nx K):aops2S P S ((⟨d,none,i⟩,2) :: l) T H nx K:=by
  have k:ains P .text i T H nx fun r H nx=>aops2S P S l (updo T d r) H nx K:=k
  show ains P .text i T H nx fun r H' nx'=>(1=0→Sub S H')∧aops2S P S l (updo T d r) H' nx' K
  exact ains_mono k (fun _ _ _ h=>⟨fun hh=>absurd hh (by decide),h⟩)
theorem w_ops1 {K:CP} {l:List Op2} (h:aops2 P .draw l T H nx fun T H nx=>K .normal T H nx):awp2 P (.ops 1 l) T H nx K:=⟨T,H,nx,_,Gh.refl _ _ _,h⟩
theorem w_ops2 {K:CP} {l:List Op2} (h:aops2 P (.fresh nx) l T H nx fun T H nx=>K .normal T H nx):awp2 P (.ops 2 l) T H nx K:=⟨T,H,nx,_,Gh.refl _ _ _,h⟩
theorem w_seq {K:CP} {x y:C2} (h:awp2 P x T H nx fun e T H nx=>athen e (awp2 P y T H nx K) (K e T H nx)):awp2 P (.seq x y) T H nx K:=h
theorem w_block {K:CP} {i:Nat} {b:C2} (h:awp2 P b T H nx fun e T H nx=>K (ablock i e) T H nx):awp2 P (.block i b) T H nx K:=h
theorem w_cond {K:CP} {c:Opd} {x y:C2} {b:Bool} (hc:ov T c=.bool b) (h1:b=true→awp2 P x T H nx K) (h2:b=false→awp2 P y T H nx K):awp2 P (.cond c x y) T H nx K:=by
  simp only [awp2,hc]; exact ⟨h1,h2⟩
theorem w_condT {K:CP} {c:Opd} {x y:C2} (hc:ov T c=.bool true) (h1:awp2 P x T H nx K):awp2 P (.cond c x y) T H nx K :=
  w_cond hc (fun _=>h1) (fun h=>by cases h)
theorem w_condF {K:CP} {c:Opd} {x y:C2} (hc:ov T c=.bool false) (h2:awp2 P y T H nx K):awp2 P (.cond c x y) T H nx K :=
  w_cond hc (fun h=>by cases h) (fun _=>h2)
theorem w_loop {K:CP} {b:C2} (h:aloop (awp2 P b) T H nx K):awp2 P (.loop b) T H nx K:=h
theorem a_n {A B:Prop} (h:A):athen .normal A B:=h
theorem a_x {A B:Prop} {i:Nat} (h:B):athen (.exit i) A B:=h
theorem a_r {A B:Prop} (h:B):athen .ret A B:=h
theorem o_nil {dm:DM} {K:SP} (h:K T H nx):aops2 P dm [] T H nx K:=h
theorem o_val {dm:DM} {K:SP} {l:List Op2} {d:Option Nat} {i:Ins} {r:AV} (hi:ic i=.val) (hd:dm2 dm T i=true) (h:ival T H i=some r) (k:aops2 P dm l (updo T d r) H nx K):aops2 P dm (⟨d,none,i⟩ :: l) T H nx K:=by
  show ains P dm i T H nx fun r H nx=>aops2 P dm l (updo T d r) H nx K
  unfold ains; rw [hi]; exact ⟨hd,by rw [h]; exact k⟩
theorem o_eff {dm:DM} {K:SP} {l:List Op2} {d:Option Nat} {i:Ins} {r:AV} {H':Hp} {nx':Nat} (hi:ic i=.eff) (hd:dm2 dm T i=true) (h:ieff T H nx i=some (r,H',nx')) (k:aops2 P dm l (updo T d r) H' nx' K):aops2 P dm (⟨d,none,i⟩ :: l) T H nx K:=by
  show ains P dm i T H nx fun r H nx=>aops2 P dm l (updo T d r) H nx K
  unfold ains; rw [hi]; exact ⟨hd,by rw [h]; exact k⟩
theorem o_call {K:SP} {l:List Op2} {d:Option Nat} {f:Opd} {args:List Opd} {g:FuncId} {caps:List AV} (hf:ov T f=.func g caps) (k:Fn P g (args.map (ov T) ++ caps) H nx fun r H nx=>aops2 P .text l (updo T d r) H nx K) :
    aops2 P .text (⟨d,none,.call f args⟩ :: l) T H nx K:=by
  left
  show obind (isFn (ov T f)) _
  rw [hf]; exact k
theorem o_pcall {dm:DM} (hdm:dm.isText=false) {K:SP} {l:List Op2} {d:Option Nat} {f:Opd} {args:List Opd} {g:FuncId} {caps:List AV} (hf:ov T f=.func g caps) (k:PCall P g (args.map (ov T) ++ caps) H fun r=>aops2 P dm l (updo T d r) H nx K) :
    aops2 P dm (⟨d,none,.call f args⟩ :: l) T H nx K:=by
  left
  show obind (isFn (ov T f)) _
  rw [hf]
  show (match dm.isText with | false=>_ | true=>_)
  rw [hdm]
  exact k
theorem w_rangeF {K:CP} {g:Opd} {ps:List Nat} {a b:C2} {f:FuncId} {caps:List AV} (hg:ov T g=.func f caps)
    (h:∀ (c0:AV) (cj:AEx→AV),(∀ (args:List AV) (H':Hp) (nx':Nat) (K':AV→Hp→Nat→Prop),H' nx=some [c0]→args.length=ps.length →
        awp2 P a (updl T ps args) H' nx' (fun e T2 H2 nx2=>athen e (H2 nx=some [c0]∧awp2 P b T2 (hdel H2 nx) nx2 fun e T3 H3 nx3=>athen e (K' (.bool true) (hupd H3 nx [c0]) nx3) (K' (.bool false) (hupd H3 nx [cj e]) nx3)) False) →
        Yl P nx args H' nx' K') →
      Fn P f (.yld nx :: caps) (hupd H nx [c0]) (nx + 1) fun _ H' nx'=>(H' nx=some [c0]∧K .normal T (hdel H' nx) nx') ∨ ∃ e,e ≠ .normal∧H' nx=some [cj e]∧K e T (hdel H' nx) nx'):awp2 P (.rangeF g ps a b) T H nx K:=⟨f,caps,hg,h⟩
theorem o_gT {dm:DM} {K:SP} {l:List Op2} {d:Option Nat} {i:Ins} {t:Nat} {w:Bool} (h:T t=.bool w) (k:aops2 P dm (⟨d,none,i⟩ :: l) T H nx K):aops2 P dm (⟨d,some (t,w),i⟩ :: l) T H nx K:=by
  show gbind (g2 T (some (t,w))) _ _
  have:g2 T (some (t,w))=some true:=by simp [g2,h]
  rw [this]; exact k
theorem o_gF {dm:DM} {K:SP} {l:List Op2} {d:Option Nat} {i:Ins} {t:Nat} {w:Bool} (h:T t=.bool (!w) ∨ T t=.tup []) (k:aops2 P dm l (updo T d (.tup [])) H nx K):aops2 P dm (⟨d,some (t,w),i⟩ :: l) T H nx K:=by
  show gbind (g2 T (some (t,w))) _ _
  have:g2 T (some (t,w))=some false:=by
    rcases h with h | h
    · cases w <;> simp [g2,h]
    · simp [g2,h]
  rw [this]; exact k
theorem e_ends {e:AEx} {A:Prop} (he:e.ends=true) (h:A):bbind e.ends A:=⟨he,h⟩
theorem r_1 {K:AV→Prop} {a:RV} {x:AV} (ha:rv T H a=some x) (h:K x):res1 T H K [a]:=by
  show obind (rv T H a) K
  rw [ha]; exact h
theorem r_2 {K:AV→Prop} {a b:RV} {x y:AV} (ha:rv T H a=some x) (hb:rv T H b=some y) (h:K (.tup [x,y])):res1 T H K [a,b]:=by
  show obind (rv T H a) _
  rw [ha]
  show obind (rv T H b) _
  rw [hb]; exact h
theorem r_3 {K:AV→Prop} {a b c:RV} {x y z:AV} (ha:rv T H a=some x) (hb:rv T H b=some y) (hc:rv T H c=some z) (h:K (.tup [x,y,z])):res1 T H K [a,b,c]:=by
  show obind (rv T H a) _
  rw [ha]
  show obind (rv T H b) _
  rw [hb]
  show obind (rv T H c) _
  rw [hc]; exact h
theorem upd_same {T:Tm} {t:Nat} {v:AV} (h:T t=v):upd T t v=T:=by
  funext x; simp only [upd]; split
  · rename_i e; rw [e,h]
  · rfl
theorem o_gB {dm:DM} {K:SP} {l:List Op2} {d:Option Nat} {i:Ins} {t:Nat} {w b:Bool} (h:T t=.bool b) (k1:b=w→aops2 P dm (⟨d,none,i⟩ :: l) (upd T t (.bool w)) H nx K)
    (k2:b=!w→aops2 P dm l (updo (upd T t (.bool (!w))) d (.tup [])) H nx K):aops2 P dm (⟨d,some (t,w),i⟩ :: l) T H nx K:=by
  by_cases hb:b=w
  · subst hb
    have:=k1 rfl
    rw [upd_same h] at this
    exact o_gT h this
  · have hb':b=!w:=by cases b <;> cases w <;> simp_all
    subst hb'
    have:=k2 rfl
    rw [upd_same h] at this
    exact o_gF (.inl h) this
theorem getD_map_lt {α:Type} {f:α→AV} {l:List α} {k:Nat} {u:AV} (d:α) (h:k < l.length):(l.map f).getD k u=f (l.getD k d):=by
  simp [List.getD,h]
theorem s_ite {c:Prop} [Decidable c] {x:Option AV} {r:AV} (hc:c) (h:x=some r):(if c then x else none)=some r:=by rw [if_pos hc]; exact h
end Go.Abs
namespace Go.Abs
open Go.RowKit
def Dat (x:AV):Prop:=∀ H,Snap H x x
theorem Dat.int {k:IntKind} {n:Int}:Dat (.int k n):=fun _=>.int _ _
theorem Dat.bool {b:Bool}:Dat (.bool b):=fun _=>.bool _
theorem Dat.str {s:ByteArray}:Dat (.str s):=fun _=>.str _
theorem Dat.esl:Dat .esl:=fun _=>.esl
theorem Dat.nilp:Dat .nilp:=fun _=>.nilp
theorem Dat.nilf:Dat .nilf:=fun _=>.nilf
theorem Dat.sl {sz:Nat} {l:List AV} (h:∀ x ∈ l,∀ c ∈ x.cells,Dat c):Dat (.sl sz l):=fun H =>
  .sl sz l l rfl (fun i x y hx hy=>by rw [hx] at hy; cases hy; rfl) (fun i j x y a b hx hy ha hb=>by
    rw [hx] at hy; cases hy; rw [ha] at hb; cases hb
    exact h x (List.mem_of_getElem? hx) a (List.mem_of_getElem? ha) H)
theorem Dat.agg {l:List AV} (h:∀ x ∈ l,Dat x):Dat (.agg l):=fun H =>
  .agg l l rfl (fun i a c ha hc=>by rw [ha] at hc; cases hc; exact h a (List.mem_of_getElem? ha) H)
theorem Dat.tup {l:List AV} (h:∀ x ∈ l,Dat x):Dat (.tup l):=fun H =>
  .tup l l rfl (fun i a c ha hc=>by rw [ha] at hc; cases hc; exact h a (List.mem_of_getElem? ha) H)
theorem Dat.func {f:FuncId} {l:List AV} (h:∀ x ∈ l,Dat x):Dat (.func f l):=fun H =>
  .func f l l rfl (fun i a c ha hc=>by rw [ha] at hc; cases hc; exact h a (List.mem_of_getElem? ha) H)
def encV (l:List Int):AV:=.sl 1 (l.map (AV.int .i64))
def encVV (l:List (List Int)):AV:=.sl 1 (l.map encV)
theorem encV_dat (l:List Int):Dat (encV l):=Dat.sl (fun x hx c hc=>by
  obtain ⟨n,_,rfl⟩:=List.mem_map.1 hx
  simp only [AV.cells,List.mem_singleton] at hc; subst hc; exact .int)
theorem encVV_dat (l:List (List Int)):Dat (encVV l):=Dat.sl (fun x hx c hc=>by
  obtain ⟨n,_,rfl⟩:=List.mem_map.1 hx
  simp only [encV,AV.cells,List.mem_singleton] at hc; subst hc; exact encV_dat n)
theorem cells_encV {l:List Int}:(encV l).cells=[encV l]:=rfl
theorem snapL_nil {H:Hp}:SnapL H [] []:=SnapL.nil
theorem snapL_dat {H:Hp} {x:AV} {xs ys:List AV} (h:Dat x) (hs:SnapL H xs ys):SnapL H (x :: xs) (x :: ys):=SnapL.cons (h H) hs
class DatI (x:AV):Prop where
  d:Dat x
instance datI_int {k:IntKind} {n:Int}:DatI (.int k n):=⟨.int⟩
instance datI_bool {b:Bool}:DatI (.bool b):=⟨.bool⟩
instance datI_str {s:ByteArray}:DatI (.str s):=⟨.str⟩
instance datI_esl:DatI .esl:=⟨.esl⟩
instance datI_nilf:DatI .nilf:=⟨.nilf⟩
instance datI_encV {l:List Int}:DatI (encV l):=⟨encV_dat l⟩
instance datI_encVV {l:List (List Int)}:DatI (encVV l):=⟨encVV_dat l⟩
theorem snapL_i {H:Hp} {x:AV} {xs ys:List AV} [h:DatI x] (hs:SnapL H xs ys):SnapL H (x :: xs) (x :: ys):=snapL_dat h.d hs
variable {P:Program} {T:Tm} {H:Hp} {nx:Nat}
theorem o_callP {dm:DM} {K:SP} {l:List Op2} {d:Option Nat} {f:Opd} {args:List Opd} {g:FuncId} {caps xs ys:List AV} {r:AV} (hf:ov T f=.func g caps) (ha:args.map (ov T) ++ caps=xs)
    (hp:Pure P g ys r) (hs:SnapArgs H xs ys r) (k:aops2 P dm l (updo T d r) H nx K):aops2 P dm (⟨d,none,.call f args⟩ :: l) T H nx K:=by
  subst ha
  cases hd:dm.isText with
  | false=>exact o_pcall hd hf (PCall.of_pure hp hs k)
  | true =>
    cases dm with
    | text=>exact o_call hf (Fn.of_pure hp hs k)
    | draw=>cases hd
    | fresh m=>cases hd
theorem o_callD {dm:DM} {K:SP} {l:List Op2} {d:Option Nat} {f:Opd} {args:List Opd} {g:FuncId} {caps xs:List AV} {r:AV} (hf:ov T f=.func g caps) (ha:args.map (ov T) ++ caps=xs)
    (hp:Pure P g xs r) (hs:SnapArgs H xs xs r) (k:aops2 P dm l (updo T d r) H nx K):aops2 P dm (⟨d,none,.call f args⟩ :: l) T H nx K:=o_callP hf ha hp hs k
theorem snap_data {xs ys:List AV} {r:AV} {H:Hp} (h:SnapL noBoxes xs ys):SnapArgs H xs ys r:=.inl h
theorem snap_plain {xs ys:List AV} {r:AV} {H:Hp} (h:SnapL H xs ys) (hr:r.sca=true):SnapArgs H xs ys r:=.inr ⟨h,hr⟩
theorem aixS_map {α:Type} [Inhabited α] {f:α→AV} {l:List α} {sz:Nat} {k:IntKind} {n:Int}:aixS sz (.sl sz (l.map f)) (.int k n)=if 0 ≤ n∧n < l.length then some (.iptr (f (l.getD n.toNat default)).cells 0) else none:=by
  simp only [aixS,true_and,List.length_map]
  split
  · rename_i h
    rw [getD_map_lt default (by omega)]
  · rfl
theorem alenS_map {α:Type} {f:α→AV} {l:List α} {sz:Nat}:alenS (.sl sz (l.map f))=some (.int .i64 l.length):=by simp [alenS]
theorem aixS_encV {l:List Int} {k:IntKind} {n:Int}:aixS 1 (encV l) (.int k n)=if 0 ≤ n∧n < l.length then some (.iptr [.int .i64 (l.getD n.toNat default)] 0) else none:=aixS_map
theorem aixS_encVV {l:List (List Int)} {k:IntKind} {n:Int}:aixS 1 (encVV l) (.int k n)=if 0 ≤ n∧n < l.length then some (.iptr [encV (l.getD n.toNat default)] 0) else none:=aixS_map
theorem alenS_encV {l:List Int}:alenS (encV l)=some (.int .i64 l.length):=alenS_map
theorem alenS_encVV {l:List (List Int)}:alenS (encVV l)=some (.int .i64 l.length):=alenS_map
end Go.Abs
namespace Go.Abs
theorem SA:(∀ (T:Tm) (n:Nat),ov T (.t n)=T n)∧(∀ (T:Tm) (v:AV),ov T (.c v)=v)∧(∀ (T:Tm) (d t:Nat) (v:AV),upd T d v t=if t=d then v else T t)∧(∀ (T:Tm) (d:Nat) (v:AV),updo T (some d) v=upd T d v) ∧
    (∀ (T:Tm) (v:AV),updo T none v=T)∧(∀ (x:AV) (l:List AV),T0 (x :: l) 0=x)∧(∀ (x:AV) (l:List AV) (n:Nat),T0 (x :: l) (n + 1)=T0 l n)∧(∀ n:Nat,T0 [] n=.undef) ∧
    (∀ (d t:Nat) (v:AV) (l:List (Nat × AV)),tl ((d,v) :: l) t=if t=d then v else tl l t)∧(∀ t:Nat,tl [] t=.undef) ∧
    (∀ (T:Tm) (t:Nat) (ts:List Nat) (x:AV) (xs:List AV),updl T (t :: ts) (x :: xs)=updl (upd T t x) ts xs)∧(∀ (T:Tm) (xs:List AV),updl T [] xs=T) :=
  ⟨fun _ _=>rfl,fun _ _=>rfl,fun _ _ _ _=>rfl,fun _ _ _=>rfl,fun _ _=>rfl,fun _ _=>rfl,fun _ _ _=>rfl,fun _=>rfl,fun _ _ _ _=>rfl,fun _=>rfl,fun _ _ _ _ _=>rfl,fun _ xs=>by cases xs <;> rfl⟩
theorem SV:(∀ (T:Tm) (H:Hp) (x:Opd),ival T H (.mov x)=some (ov T x)) ∧
    (∀ (T:Tm) (H:Hp) (c a b:Opd),ival T H (.pick c a b)=match ov T c with | .bool t=>some (if t=true then ov T a else ov T b) | _=>none) ∧
    (∀ (T:Tm) (H:Hp) (a:Opd),ival T H (.ld1 a)=rd1 H (ov T a))∧(∀ (T:Tm) (H:Hp) (k:Nat) (a:Opd),ival T H (.ldn k a)=(rd H k (ov T a)).map .agg) ∧
    (∀ (T:Tm) (H:Hp) (op:BinOp) (tb tf:Bool) (x y:Opd),ival T H (.bin op tb tf x y)=abin2 op tb tf (ov T x) (ov T y)) ∧
    (∀ (T:Tm) (H:Hp) (op:UnOp) (x:Opd),ival T H (.un op x)=aun op (ov T x)) ∧
    (∀ (T:Tm) (H:Hp) (f:FuncId) (caps:List Opd),ival T H (.mkfn f caps)=some (.func f (caps.map (ov T)))) ∧
    (∀ (T:Tm) (H:Hp) (k:Nat) (p:Opd),ival T H (.fa k p)=apadd k (ov T p)) ∧
    (∀ (T:Tm) (H:Hp) (sz:Nat) (x i:Opd),ival T H (.ixaS sz x i)=aixS sz (ov T x) (ov T i)) ∧
    (∀ (T:Tm) (H:Hp) (x:Opd) (i:Nat),ival T H (.ext x i)=aextract (ov T x) i) ∧
    (∀ (T:Tm) (H:Hp) (x:Opd),ival T H (.lenS x)=alenS (ov T x)) ∧
    (∀ (T:Tm) (H:Hp) (z:List AV) (parts:List (Nat × Nat × Opd)),ival T H (.bld z parts)=(afill2 z (parts.map fun p=>(p.1,p.2.1,ov T p.2.2))).map .agg) ∧
    (∀ (T:Tm) (H:Hp) (x:Opd) (l:List Opd),ival T H (.mx x l)=afold amax2 (ov T x) (l.map (ov T))) ∧
    (∀ (T:Tm) (H:Hp) (x:Opd) (l:List Opd),ival T H (.mn x l)=afold amin2 (ov T x) (l.map (ov T))) ∧
    (∀ (T:Tm) (H:Hp) (k:IntKind) (x:Opd),ival T H (.conv k x)=aint (ov T x) fun n=>some (.int k (k.wrap n))) ∧
    (∀ (T:Tm) (H:Hp) (sz:Nat) (x:Opd) (lo hi mx:Option Opd),ival T H (.sls sz x lo hi mx)=asls sz (ov T x) (lo.map (ov T)) (hi.map (ov T)) (mx.map (ov T))) ∧
    (∀ (T:Tm) (H:Hp) (off:Nat) (x:Opd),ival T H (.part1 off x)=acells (ov T x) fun cs=>cs[off]?) ∧
    (∀ (T:Tm) (H:Hp) (op:BinOp) (ks:List TK) (x y:Opd),ival T H (.binS op ks x y)=acells (ov T x) fun xs=>acells (ov T y) fun ys=>acmpS op ks xs ys) :=
  ⟨fun _ _ _=>rfl,fun _ _ _ _ _=>rfl,fun _ _ _=>rfl,fun _ _ _ _=>rfl,fun _ _ _ _ _ _ _=>rfl,fun _ _ _ _=>rfl,fun _ _ _ _=>rfl,fun _ _ _ _=>rfl,fun _ _ _ _ _=>rfl,fun _ _ _ _=>rfl,fun _ _ _=>rfl,
   fun _ _ _ _=>rfl,fun _ _ _ _=>rfl,fun _ _ _ _=>rfl,fun _ _ _ _=>rfl,fun _ _ _ _ _ _ _=>rfl,fun _ _ _ _=>rfl,fun _ _ _ _ _ _=>rfl⟩
def alenStr:AV→Option AV
  | .str s=>some (.int .i64 s.size)
  | _=>none
def aixStr:AV→AV→Option AV
  | .str s,.int _ n=>if 0 ≤ n∧n < s.size then some (.int .u8 (s[n.toNat]?.getD 0).toNat) else none
  | _,_=>none
theorem SV2:(∀ (T:Tm) (H:Hp) (n:Nat) (x:Opd) (lo hi:Option Opd),ival T H (.slsA n x lo hi)=aslsA n (ov T x) (lo.map (ov T)) (hi.map (ov T)) none) ∧
    (∀ (T:Tm) (H:Hp) (f:FuncId) (l:List Opd),ival T H (.mkbf f l)=some (.bfn f (l.map (ov T)))) ∧
    (∀ (T:Tm) (H:Hp) (x:Opd),ival T H (.lenStr x)=alenStr (ov T x)) ∧
    (∀ (T:Tm) (H:Hp) (x i:Opd),ival T H (.ixStr x i)=aixStr (ov T x) (ov T i)) ∧
    (∀ (T:Tm) (H:Hp) (x:Opd) (lo hi:Option Opd),ival T H (.slstr x lo hi)=aslstr (ov T x) (lo.map (ov T)) (hi.map (ov T))) ∧
    (∀ (T:Tm) (H:Hp) (off k:Nat) (x:Opd),ival T H (.partn off k x)=acells (ov T x) fun cs=>if off + k ≤ cs.length then some (.agg ((cs.drop off).take k)) else none) ∧
    (∀ (T:Tm) (H:Hp) (n:Nat),ival T H (.lenC n)=some (.int .i64 n)) ∧
    (∀ (s:ByteArray),alenStr (.str s)=some (.int .i64 s.size)) ∧
    (∀ (s:ByteArray) (k:IntKind) (n:Int),aixStr (.str s) (.int k n)=if 0 ≤ n∧n < s.size then some (.int .u8 (s[n.toNat]?.getD 0).toNat) else none) :=
  ⟨fun _ _ _ _ _ _=>rfl,fun _ _ _ _=>rfl,fun T H x=>by
    simp only [ival]
    cases ov T x <;> rfl,fun T H x i=>by
    simp only [ival]
    cases ov T x <;> cases ov T i <;> rfl,fun _ _ _ _ _=>rfl,fun _ _ _ _ _=>rfl,fun _ _ _=>rfl,fun _=>rfl,fun _ _ _=>rfl⟩
theorem SN:(∀ (k:IntKind) (a b:Int) (tb tf:Bool),abin2 .lss tb tf (.int k a) (.int k b)=some (.bool (decide (a < b))))∧(∀ (k:IntKind) (a b:Int) (tb tf:Bool),abin2 .leq tb tf (.int k a) (.int k b)=some (.bool (decide (a ≤ b)))) ∧
    (∀ (k:IntKind) (a b:Int) (tb tf:Bool),abin2 .gtr tb tf (.int k a) (.int k b)=some (.bool (decide (b < a))))∧(∀ (k:IntKind) (a b:Int) (tb tf:Bool),abin2 .geq tb tf (.int k a) (.int k b)=some (.bool (decide (b ≤ a)))) ∧
    (∀ (k:IntKind) (a b:Int) (tb tf:Bool),abin2 .eql tb tf (.int k a) (.int k b)=some (.bool (decide (a=b))))∧(∀ (k:IntKind) (a b:Int) (tb tf:Bool),abin2 .neq tb tf (.int k a) (.int k b)=some (.bool (decide (a ≠ b)))) ∧
    (∀ (k:IntKind) (a b:Int) (tb tf:Bool),abin2 .add tb tf (.int k a) (.int k b)=some (.int k (k.wrap (a + b))))∧(∀ (k:IntKind) (a b:Int) (tb tf:Bool),abin2 .sub tb tf (.int k a) (.int k b)=some (.int k (k.wrap (a - b)))) ∧
    (∀ (k:IntKind) (a b:Int) (tb tf:Bool),abin2 .mul tb tf (.int k a) (.int k b)=some (.int k (k.wrap (a * b)))) ∧
    (∀ (a b:Bool) (tf:Bool),abin2 .eql true tf (.bool a) (.bool b)=some (.bool (a == b)))∧(∀ (a b:Bool) (tf:Bool),abin2 .neq true tf (.bool a) (.bool b)=some (.bool (!(a == b)))) ∧
    (∀ tb:Bool,abin2 .eql tb true .nilf .nilf=some (.bool true))∧(∀ tb:Bool,abin2 .neq tb true .nilf .nilf=some (.bool false)) ∧
    (∀ (tb:Bool) (f:FuncId) (c:List AV),abin2 .eql tb true (.func f c) .nilf=some (.bool false))∧(∀ (tb:Bool) (f:FuncId) (c:List AV),abin2 .neq tb true (.func f c) .nilf=some (.bool true)) ∧
    (∀ b:Bool,aun .not (.bool b)=some (.bool (!b))) ∧
    (∀ (k:IntKind) (a b:Int),amax2 (.int k a) (.int k b)=some (.int k (max a b)))∧(∀ (k:IntKind) (a b:Int),amin2 (.int k a) (.int k b)=some (.int k (min a b))) ∧
    (∀ (f:AV→AV→Option AV) (x:AV),afold f x []=some x)∧(∀ (f:AV→AV→Option AV) (x y:AV) (l:List AV),afold f x (y :: l)=match f x y with | some z=>afold f z l | none=>none) ∧
    (∀ (k:Nat) (b n off:Nat),apadd k (.ptr b n off)=some (.ptr b n (off + k)))∧(∀ (k:Nat) (cs:List AV) (off:Nat),apadd k (.iptr cs off)=some (.iptr cs (off + k))) ∧
    (∀ (cs:List AV) (off:Nat),rd1 noBoxes (.iptr cs off)=cs[off]?) :=
  ⟨fun _ _ _ _ _=>bin_lss,fun _ _ _ _ _=>bin_leq,fun _ _ _ _ _=>bin_gtr,fun _ _ _ _ _=>bin_geq,fun _ _ _ _ _=>bin_eql,fun _ _ _ _ _=>bin_neq,fun _ _ _ _ _=>bin_add,fun _ _ _ _ _=>bin_sub,fun _ _ _ _ _=>bin_mul,
   fun _ _ _=>rfl,fun _ _ _=>rfl,fun _=>rfl,fun _=>rfl,fun _ _ _=>rfl,fun _ _ _=>rfl,fun _=>rfl,
   fun k a b=>by simp only [amax2,Int.max_def]; split <;> split <;> simp <;> omega,fun k a b=>by simp only [amin2,Int.min_def]; split <;> split <;> simp <;> omega,fun _ _=>rfl,fun _ _ _ _=>rfl,fun _ _ _ _=>rfl,fun _ _ _=>rfl,fun _ _=>rfl⟩
theorem SL:(∀ (a:AV) (l:List AV),(a :: l)[0]?=some a)∧(∀ (a:AV) (l:List AV) (n:Nat),(a :: l)[n + 1]?=l[n]?)∧(∀ (l:List AV),l.drop 0=l)∧(∀ (a:AV) (l:List AV) (n:Nat),(a :: l).drop (n + 1)=l.drop n)∧(∀ n:Nat,([]:List AV).drop n=[]) ∧
    (∀ (l:List AV),l.take 0=[])∧(∀ (a:AV) (l:List AV) (n:Nat),(a :: l).take (n + 1)=a :: l.take n)∧(∀ n:Nat,([]:List AV).take n=[])∧(∀ (l:List AV),[] ++ l=l)∧(∀ (l:List AV),l ++ []=l)∧(∀ (a:AV) (l m:List AV),(a :: l) ++ m=a :: (l ++ m)) ∧
    (∀ (cs:List AV) (off:Nat) (new:List AV),lput cs off new=cs.take off ++ new ++ cs.drop (off + new.length))∧(([]:List AV).length=0)∧(∀ (a:AV) (l:List AV),(a :: l).length=l.length + 1) ∧
    (∀ (k:IntKind) (n:Int),(AV.int k n).cells=[.int k n])∧(∀ b:Bool,(AV.bool b).cells=[.bool b])∧(∀ s:ByteArray,(AV.str s).cells=[.str s])∧(∀ (k:Nat) (l:List AV),(AV.sl k l).cells=[.sl k l])∧(∀ l:List AV,(AV.agg l).cells=l)∧(AV.esl.cells=[.esl])∧(AV.nilf.cells=[.nilf]) ∧
    (∀ (f:FuncId) (c:List AV),(AV.func f c).cells=[.func f c])∧(∀ (b n off:Nat),(AV.ptr b n off).cells=[.ptr b n off])∧(∀ (c:List AV) (off:Nat),(AV.iptr c off).cells=[.iptr c off])∧(∀ (b n sz off len:Nat),(AV.msl b n sz off len).cells=[.msl b n sz off len])∧(∀ b:Nat,(AV.yld b).cells=[.yld b])∧(∀ b:Nat,(AV.mp b).cells=[.mp b])∧(AV.nilp.cells=[.nilp])∧(∀ (f:FuncId) (c:List AV),(AV.bfn f c).cells=[.bfn f c]) :=
  ⟨fun _ _=>rfl,fun _ _ _=>rfl,fun _=>rfl,fun _ _ _=>rfl,fun n=>by cases n <;> rfl,fun _=>rfl,fun _ _ _=>rfl,fun n=>by cases n <;> rfl,fun _=>rfl,fun l=>List.append_nil l,fun _ _ _=>rfl,fun _ _ _=>rfl,rfl,fun _ _=>rfl,
   fun _ _=>rfl,fun _=>rfl,fun _=>rfl,fun _ _=>rfl,fun _=>rfl,rfl,rfl,fun _ _=>rfl,fun _ _ _=>rfl,fun _ _=>rfl,fun _ _ _ _ _=>rfl,fun _=>rfl,fun _=>rfl,rfl,fun _ _=>rfl⟩
def AV.ones (l:List AV):Bool:=l.all AV.one
theorem SO:(AV.ones []=true)∧(∀ (a:AV) (l:List AV),AV.ones (a :: l)=(a.one && AV.ones l))∧(∀ (k:IntKind) (n:Int),(AV.int k n).one=true)∧(∀ b:Bool,(AV.bool b).one=true)∧(∀ s:ByteArray,(AV.str s).one=true)∧(∀ (k:Nat) (l:List AV),(AV.sl k l).one=true)∧(AV.esl.one=true)∧(AV.nilf.one=true) ∧
    (∀ (f:FuncId) (c:List AV),(AV.func f c).one=true)∧(∀ (b n off:Nat),(AV.ptr b n off).one=true)∧(∀ (c:List AV) (off:Nat),(AV.iptr c off).one=true)∧(∀ (b n sz off len:Nat),(AV.msl b n sz off len).one=true)∧(∀ b:Nat,(AV.yld b).one=true)∧(∀ b:Nat,(AV.mp b).one=true)∧(AV.nilp.one=true)∧(∀ l:List AV,l.all AV.one=AV.ones l) :=
  ⟨rfl,fun _ _=>by simp [AV.ones],fun _ _=>rfl,fun _=>rfl,fun _=>rfl,fun _ _=>rfl,rfl,rfl,fun _ _=>rfl,fun _ _ _=>rfl,fun _ _=>rfl,fun _ _ _ _ _=>rfl,fun _=>rfl,fun _=>rfl,rfl,fun _=>rfl⟩
variable {P:Program} {T:Tm} {H:Hp} {nx:Nat}
theorem e_alloc {dm:DM} {K:SP} {l:List Op2} {d:Option Nat} {z:AV} {cs:List AV} (hd:dm2 dm T (.alloc z)=true) (hc:z.cells=cs) (ho:AV.ones cs=true) (k:aops2 P dm l (updo T d (.ptr nx cs.length 0)) (hupd H nx cs) (nx + 1) K):aops2 P dm (⟨d,none,.alloc z⟩ :: l) T H nx K:=by
  subst hc
  refine o_eff rfl hd ?_ k
  simp only [ieff,abox]; rw [if_pos (show z.flat=true from ho)]
theorem e_box {dm:DM} {K:SP} {l:List Op2} {d:Option Nat} {x:Opd} {v:AV} {cs:List AV} (hd:dm2 dm T (.box x)=true) (hx:ov T x=v) (hc:v.cells=cs) (ho:AV.ones cs=true) (k:aops2 P dm l (updo T d (.ptr nx cs.length 0)) (hupd H nx cs) (nx + 1) K):aops2 P dm (⟨d,none,.box x⟩ :: l) T H nx K:=by
  subst hc hx
  refine o_eff rfl hd ?_ k
  simp only [ieff,abox]; rw [if_pos (show (ov T x).flat=true from ho)]
theorem e_st {dm:DM} {K:SP} {l:List Op2} {d:Option Nat} {sz:Nat} {p x:Opd} {b n off:Nat} {v:AV} {cs vs:List AV} (hd:dm2 dm T (.st sz p x)=true) (hp:ov T p=.ptr b n off) (hx:ov T x=v) (hb:H b=some cs) (hc:v.cells=vs) (ho:AV.ones vs=true) (hn:cs.length=n) (hl:vs.length=sz) (hf:off + sz ≤ n)
    (k:aops2 P dm l (updo T d (.tup [])) (hupd H b (lput cs off vs)) nx K):aops2 P dm (⟨d,none,.st sz p x⟩ :: l) T H nx K:=by
  subst hc hx
  refine o_eff rfl hd ?_ k
  simp only [ieff,hp,hb]
  rw [if_pos ⟨hn,ho,hl,hf⟩]
theorem e_mks {dm:DM} {K:SP} {l:List Op2} {d:Option Nat} {sz bytes:Nat} {z:List AV} {x y:Opd} {k1 k2:IntKind} {n m:Int} (hd:dm2 dm T (.mks sz bytes z x y)=true) (hx:ov T x=.int k1 n) (hy:ov T y=.int k2 m) (h0:0 ≤ n) (h1:n ≤ m) (h2:m ≤ 9223372036854775807) (h3:bytes * m ≤ 281474976710656)
    (k:aops2 P dm l (updo T d (.msl nx (m.toNat * sz) sz 0 n.toNat)) (hupd H nx (zcells (.agg z) m.toNat)) (nx + 1) K):aops2 P dm (⟨d,none,.mks sz bytes z x y⟩ :: l) T H nx K:=by
  refine o_eff rfl hd ?_ k
  simp only [ieff,hx,hy]
  rw [if_pos ⟨h0,h1,h2,h3⟩]
theorem e_bld {dm:DM} {K:SP} {l:List Op2} {d:Option Nat} {sz len:Nat} {z:List AV} {parts:List (Nat × Nat × Opd)} {pv:List (Nat × Nat × AV)} {cs:List AV} (hd:dm2 dm T (.bldS sz len z parts)=true) (hl:len ≠ 0) (hp:parts.map (fun p=>(p.1,p.2.1,ov T p.2.2))=pv) (hc:afill2 (zcells (.agg z) len) pv=some cs)
    (k:aops2 P dm l (updo T d (.msl nx cs.length sz 0 len)) (hupd H nx cs) (nx + 1) K):aops2 P dm (⟨d,none,.bldS sz len z parts⟩ :: l) T H nx K:=by
  refine o_eff rfl hd ?_ k
  simp only [ieff,hl,if_false,hp,hc]
theorem e_app0 {dm:DM} {K:SP} {l:List Op2} {d:Option Nat} {sz bytes n:Nat} {s x:Opd} {v:AV} {new:List AV} (hd:dm2 dm T (.app sz bytes s x)=true) (hs:ov T s=.esl) (hx:ov T x=v) (hsrc:asrc sz H v=some (n,new)) (ho:AV.ones new=true) (h1:n * bytes ≤ 140737488355328) (h2:n ≤ 9223372036854775807)
    (k:aops2 P dm l (updo T d (.msl nx (n * sz) sz 0 n)) (hupd H nx new) (nx + 1) K):aops2 P dm (⟨d,none,.app sz bytes s x⟩ :: l) T H nx K:=by
  subst hx
  refine o_eff rfl hd ?_ k
  simp only [ieff,aapp,hs,hsrc]
  rw [if_pos (show new.all AV.one=true from ho),if_pos ⟨h1,h2⟩]
theorem e_app {dm:DM} {K:SP} {l:List Op2} {d:Option Nat} {sz bytes n:Nat} {s x:Opd} {v:AV} {new cs:List AV} {b m len:Nat} (hd:dm2 dm T (.app sz bytes s x)=true) (hs:ov T s=.msl b m sz 0 len) (hb:H b=some cs) (hx:ov T x=v) (hsrc:asrc sz H v=some (n,new)) (ho:AV.ones new=true) (hm:cs.length=m) (hl:m=len * sz)
    (h1:(len + n) * bytes ≤ 140737488355328) (h2:len + n ≤ 9223372036854775807)
    (k:aops2 P dm l (updo T d (.msl b ((len + n) * sz) sz 0 (len + n))) (hupd H b (cs ++ new)) nx K):aops2 P dm (⟨d,none,.app sz bytes s x⟩ :: l) T H nx K:=by
  subst hx
  refine o_eff rfl hd ?_ k
  simp only [ieff,aapp,hs,hsrc,hb]
  rw [if_pos (show new.all AV.one=true from ho),if_pos ⟨hm,trivial⟩,if_pos ⟨trivial,hl,h1,h2⟩]
theorem asrc_msl {sz b n off len:Nat} {cs:List AV} (h:H b=some cs) (hn:cs.length=n) (hf:off + len * sz ≤ n):asrc sz H (.msl b n sz off len)=some (len,(cs.drop off).take (len * sz)):=by
  simp only [asrc]
  split
  · rename_i h0; subst h0; simp
  · simp only [h,hn,true_and,hf,if_true]
theorem SR:(∀ (H:Hp) (b n off:Nat),rd1 H (.ptr b n off)=match H b with | some cs=>if cs.length=n then cs[off]? else none | none=>none) ∧
    (∀ (H:Hp) (k b n off:Nat),rd H k (.ptr b n off)=match H b with | some cs=>if cs.length=n∧off + k ≤ n then some ((cs.drop off).take k) else none | none=>none) ∧
    (∀ (H:Hp) (cs:List AV) (off:Nat),rd1 H (.iptr cs off)=cs[off]?)∧(∀ (H:Hp) (cs:List AV) (off k:Nat),rd H k (.iptr cs off)=if off + k ≤ cs.length then some ((cs.drop off).take k) else none) ∧
    (∀ (l:List AV) (i:Nat),aextract (.tup l) i=l[i]?)∧(∀ (l:List AV) (f:List AV→Option AV),acells (.agg l) f=f l)∧(∀ (k:IntKind) (n:Int) (f:Int→Option AV),aint (.int k n) f=f n) ∧
    (∀ (cs:List AV),afill2 cs []=some cs) ∧
    (∀ (cs:List AV) (off sz:Nat) (x:AV) (r:List (Nat × Nat × AV)),afill2 cs ((off,sz,x) :: r)=if AV.ones x.cells=true∧x.cells.length=sz∧off + sz ≤ cs.length then afill2 (lput cs off x.cells) r else none) ∧
    (∀ (b n sz off len:Nat),alenS (.msl b n sz off len)=some (.int .i64 len))∧(alenS .esl=some (.int .i64 0))∧(∀ (sz:Nat) (l:List AV),alenS (.sl sz l)=some (.int .i64 l.length)) ∧
    (∀ (z:AV),zcells z 0=[])∧(∀ (z:AV) (n:Nat),zcells z (n + 1)=z.cells ++ zcells z n) :=
  ⟨fun _ _ _ _=>rfl,fun _ _ _ _ _=>rfl,fun _ _ _=>rfl,fun _ _ _ _=>rfl,fun l i=>by cases l <;> rfl,fun _ _=>rfl,fun _ _ _=>rfl,fun _=>rfl,fun _ _ _ _ _=>rfl,fun _ _ _ _ _=>rfl,rfl,fun _ _=>rfl,fun _=>rfl,fun z n=>by simp [zcells,List.replicate_succ]⟩
end Go.Abs
namespace Go.Abs
theorem snap_bool {H:Hp} {a b:Bool} (h:a=b):Snap H (.bool a) (.bool b):=by subst h; exact .bool _
theorem snap_int {H:Hp} {k:IntKind} {a b:Int} (h:a=b):Snap H (.int k a) (.int k b):=by subst h; exact .int _ _
theorem snap_tup {H:Hp} {l m:List AV} (h:SnapL H l m):Snap H (.tup l) (.tup m):=.tup l m h.1 h.2
theorem snap_agg {H:Hp} {l m:List AV} (h:SnapL H l m):Snap H (.agg l) (.agg m):=.agg l m h.1 h.2
theorem snapL_cons {H:Hp} {x y:AV} {xs ys:List AV} (h:Snap H x y) (hs:SnapL H xs ys):SnapL H (x :: xs) (y :: ys):=SnapL.cons h hs
theorem Dat.snap {H:Hp} {x:AV} (h:Dat x):Snap H x x:=h H
theorem loopI {P:Program} {b:C2} {T:Tm} {H:Hp} {nx:Nat} {K:CP} {X:Type} (L:X→List (Nat × AV)) (I:X→Hp→Nat→Prop) (μ:X→Nat) (x0:X) (h0:I x0 H nx) (hT:agr T (L x0))
    (step:∀ x H nx,I x H nx→awp2 P b (tl (L x)) H nx fun e T H' nx'=>athen e (∃ y,μ y < μ x∧I y H' nx'∧agr T (L y)) (K e T H' nx')):aloop (awp2 P b) T H nx K:=by
  refine loopG (X:=X × Hp × Nat) (fun x=>tl (L x.1)) (fun x=>x.2.1) (fun x=>x.2.2) (fun x=>I x.1 x.2.1 x.2.2) (fun x=>μ x.1) ⟨(x0,H,nx),h0,_,Gh.weak (agr_tl hT)⟩ (fun x hx=>awp2_mono b (step x.1 x.2.1 x.2.2 hx) (fun e T H' nx' h=>?_))
  cases e with
  | normal =>
    obtain ⟨y,h1,h2,h3⟩:=h
    exact ⟨(y,H',nx'),h2,h1,_,Gh.weak (agr_tl h3)⟩
  | exit i=>exact h
  | ret=>exact h
def CellsTo (Hf:Hp) (cs cs':List AV):Prop:=cs'.length=cs.length∧∀ (i:Nat) (x x':AV),cs[i]?=some x→cs'[i]?=some x'→x'=x ∨ Snap Hf x x'
theorem CellsTo.refl (Hf:Hp) (cs:List AV):CellsTo Hf cs cs:=⟨rfl,fun i x x' h1 h2=>.inl (by rw [h1] at h2; cases h2; rfl)⟩
theorem CellsTo.snoc {Hf:Hp} {cs:List AV} {x x':AV} (h:Snap Hf x x'):CellsTo Hf (cs ++ [x]) (cs ++ [x']):=by
  refine ⟨by simp,fun i y y' h1 h2=>?_⟩
  by_cases hi:i < cs.length
  · rw [List.getElem?_append_left hi] at h1 h2; rw [h1] at h2; cases h2; exact .inl rfl
  · rw [List.getElem?_append_right (by omega)] at h1 h2
    cases hj:i - cs.length with
    | zero=>rw [hj] at h1 h2; simp at h1 h2; subst h1 h2; exact .inr h
    | succ j=>rw [hj] at h1; simp at h1
structure Fz (Hf H H':Hp):Prop where
  sub:∀ b cs,Hf b=some cs→H b=some cs
  to:∀ b cs',H' b=some cs'→∃ cs,H b=some cs∧Hf b=none∧CellsTo Hf cs cs'
def only (b:Nat) (cs:List AV):Hp:=fun x=>if x=b then some cs else none
theorem Fz.one {H:Hp} {b:Nat} {cs:List AV} (hb:H b=some cs):Fz (only b cs) H (hdel H b) :=
  ⟨fun x c h=>by unfold only at h; split at h <;> cases h; subst_vars; exact hb,fun x c h=>by
    have:=hdel_some h
    exact ⟨c,this.2,by simp [only,this.1],CellsTo.refl _ _⟩⟩
theorem Fz.all {H:Hp}:Fz H H noBoxes:=⟨fun _ _ h=>h,fun _ _ h=>(by cases h)⟩
theorem Fz.none {H:Hp}:Fz noBoxes H H:=⟨fun _ _ h=>(by cases h),fun b cs h=>⟨cs,h,rfl,CellsTo.refl _ _⟩⟩
theorem getD_take {α:Type} {l:List α} {n k:Nat} {d:α} (h:k < n):(l.take n).getD k d=l.getD k d:=by
  simp only [List.getD,List.getElem?_take,if_pos h]
theorem take_succ' {α:Type} [Inhabited α] {l:List α} {k:Nat} (h:k < l.length):l.take (k + 1)=l.take k ++ [l.getD k default]:=by
  rw [List.take_add_one]; simp [List.getD,h]
theorem drop_cons {α:Type} [Inhabited α] {l:List α} {k:Nat} (h:k < l.length):l.drop k=l.getD k default :: l.drop (k + 1):=by
  rw [List.drop_eq_getElem_cons h]; simp [List.getD,h]
theorem hupd_self' {H:Hp} {b:Nat} {cs:List AV}:hupd H b cs b=some cs:=if_pos rfl
theorem snap_func {H:Hp} {f:FuncId} {l m:List AV} (h:SnapL H l m):Snap H (.func f l) (.func f m):=.func f l m h.1 h.2
theorem snap_ptr {H:Hp} {b n off:Nat} {cs cs':List AV} (hb:H b=some cs) (hn:cs.length=n) (h:SnapL H cs cs'):Snap H (.ptr b n off) (.iptr cs' off):=.ptr b n off cs cs' hb hn (by rw [h.1,hn]) h.2
theorem snap_iptr {H:Hp} {cs cs':List AV} {off:Nat} (h:SnapL H cs cs'):Snap H (.iptr cs off) (.iptr cs' off):=.iptr cs cs' off h.1 h.2
theorem Dat.iptr {cs:List AV} {off:Nat} (h:∀ x ∈ cs,Dat x):Dat (.iptr cs off):=fun H=>.iptr cs cs off rfl (fun i a c ha hc=>by rw [ha] at hc; cases hc; exact h a (List.mem_of_getElem? ha) H)
theorem DatL.nil:∀ x ∈ ([]:List AV),Dat x:=by simp
theorem DatL.cons {x:AV} {l:List AV} (h:Dat x) (hl:∀ y ∈ l,Dat y):∀ y ∈ x :: l,Dat y:=fun y hy=>(List.mem_cons.1 hy).elim (fun e=>e ▸ h) (hl y)
theorem snap_msl {H:Hp} {b n off len:Nat} {cs:List AV} {l:List AV} (hb:H b=some cs) (hn:cs.length=n) (hf:off + len ≤ n) (hl:l.length=len) (hc:∀ y ∈ l,y.cells=[y]) (h:∀ (i:Nat) (a c:AV),cs[off + i]?=some a→l[i]?=some c→Snap H a c):Snap H (.msl b n 1 off len) (.sl 1 l):=by
  refine .msl b n 1 off len cs l hb hn (by omega) hl (fun y hy=>by rw [hc y hy]; rfl) (fun i j y a c hy hc' ha=>?_)
  rw [hc y (List.mem_of_getElem? hy)] at hc'
  cases j with
  | zero=>simp at hc'; subst hc'; exact h i a y (by simpa using ha) hy
  | succ j=>simp at hc'
theorem snap_row {H:Hp} {b n len:Nat} {l:List Int} (hb:H b=some (l.map (AV.int .i64))) (hn:n=len) (hl:l.length=len):Snap H (.msl b n 1 0 len) (encV l):=by
  subst hn
  refine snap_msl hb (by simp [hl]) (by omega) (by simp [hl]) (fun y hy=>by simp at hy; obtain ⟨n,_,rfl⟩:=hy; rfl) (fun i a c ha hc=>?_)
  rw [Nat.zero_add] at ha
  rw [ha] at hc; cases hc
  simp at ha
  obtain ⟨n,_,rfl⟩:=ha
  exact .int _ _
theorem snapL_datL {H:Hp}:∀ {l:List AV},(∀ x ∈ l,Dat x)→SnapL H l l
  | [],_=>SnapL.nil
  | x :: l,h=>SnapL.cons (h x (by simp) H) (snapL_datL (fun y hy=>h y (by simp [hy])))
theorem mem_getD {α:Type} [Inhabited α] {l:List α} {k:Nat} (h:k < l.length):l.getD k default ∈ l:=by
  have:l.getD k default=l[k]:=by simp [List.getD,h]
  rw [this]; exact List.getElem_mem h
theorem one_encV {l:List Int}:(encV l).one=true:=rfl
theorem one_encVV {l:List (List Int)}:(encVV l).one=true:=rfl
theorem snap_rowD {H:Hp} {b n len:Nat} {l:List AV} (hb:H b=some l) (hn:n=len) (hl:l.length=len) (hc:∀ y ∈ l,y.cells=[y]∧Dat y):Snap H (.msl b n 1 0 len) (.sl 1 l):=by
  subst hn
  refine snap_msl hb hl (by omega) hl (fun y hy=>(hc y hy).1) (fun i a c ha hc'=>?_)
  rw [Nat.zero_add] at ha
  rw [ha] at hc'; cases hc'
  exact (hc a (List.mem_of_getElem? ha)).2 H
theorem snap_rowV {H:Hp} {b n len:Nat} {l:List (List Int)} (hb:H b=some (l.map encV)) (hn:n=len) (hl:l.length=len):Snap H (.msl b n 1 0 len) (encVV l) :=
  snap_rowD hb hn (by simp [hl]) (fun y hy=>by simp at hy; obtain ⟨n,_,rfl⟩:=hy; exact ⟨rfl,encV_dat n⟩)
theorem r_0 {T:Tm} {H:Hp} {K:AV→Prop} (h:K (.tup [])):res1 T H K []:=h
theorem getElem?_map_lt {α:Type} [Inhabited α] {f:α→AV} {l:List α} {k:Nat} (h:k < l.length):(l.map f)[k]?=some (f (l.getD k default)):=by
  simp [List.getD,h]
theorem aixS_msl {sz b m off len:Nat} {k:IntKind} {n:Int}:aixS sz (.msl b m sz off len) (.int k n)=if 0 ≤ n∧n < len then some (.ptr b m (off + n.toNat * sz)) else none:=by simp [aixS]
end Go.Abs
namespace Go.Abs
inductive Row (H:Hp) (sz:Nat):AV→List AV→Prop
  | nil:Row H sz .esl []
  | box (b len:Nat) (cs:List AV) (hb:H b=some cs) (hl:cs.length=len * sz):Row H sz (.msl b (len * sz) sz 0 len) cs
def rowB:AV→Option Nat
  | .msl b _ _ _ _=>some b
  | _=>none
theorem Row.len {H:Hp} {sz:Nat} {s:AV} {cs:List AV} (h:Row H sz s cs):∃ n:Nat,alenS s=some (.int .i64 n)∧cs.length=n * sz:=by
  cases h with
  | nil=>exact ⟨0,rfl,by simp⟩
  | box b len cs hb hl=>exact ⟨len,rfl,hl⟩
theorem Row.lenS {H:Hp} {sz n:Nat} {s:AV} {cs:List AV} (h:Row H sz s cs) (hl:cs.length=n * sz) (hz:0 < sz):alenS s=some (.int .i64 n):=by
  obtain ⟨m,h1,h2⟩:=h.len
  have:m=n:=Nat.eq_of_mul_eq_mul_right hz (by omega)
  subst this; exact h1
theorem Row.same {H H':Hp} {sz:Nat} {s:AV} {cs:List AV} (h:Row H sz s cs) (hs:∀ b,rowB s=some b→H' b=H b):Row H' sz s cs:=by
  cases h with
  | nil=>exact .nil
  | box b len cs hb hl=>exact .box b len cs ((hs b rfl).trans hb) hl
theorem Row.one {H:Hp} {sz:Nat} {s:AV} {cs:List AV} (h:Row H sz s cs):s.one=true∧s.cells=[s]:=by
  cases h <;> exact ⟨rfl,rfl⟩
theorem hupd_ne {H:Hp} {b x:Nat} {cs:List AV} (h:x ≠ b):hupd H b cs x=H x:=if_neg h
theorem hdel_ne {H:Hp} {b x:Nat} (h:x ≠ b):hdel H b x=H x:=if_neg h
variable {P:Program} {T:Tm} {H:Hp} {nx:Nat}
theorem e_row {dm:DM} {K:SP} {l:List Op2} {d:Option Nat} {sz bytes k:Nat} {s x:Opd} {sv xv:AV} {cs new:List AV} (hd:dm2 dm T (.app sz bytes s x)=true) (hs:ov T s=sv) (hrow:Row H sz sv cs) (hx:ov T x=xv) (hsrc:asrc sz H xv=some (k,new)) (ho:AV.ones new=true) (hk:new.length=k * sz)
    (hz:0 < sz) (h1:(cs.length + k) * bytes ≤ 140737488355328) (h2:cs.length + k ≤ 9223372036854775807)
    (next:∀ (sv':AV) (H':Hp) (nx':Nat),Row H' sz sv' (cs ++ new)→nx ≤ nx'→nx' ≤ nx + 1→(∀ i,i < nx→rowB sv ≠ some i→H' i=H i)→(∀ b,rowB sv'=some b→rowB sv=some b ∨ b=nx∧nx'=nx + 1)→aops2 P dm l (updo T d sv') H' nx' K) :
    aops2 P dm (⟨d,none,.app sz bytes s x⟩ :: l) T H nx K:=by
  cases hrow with
  | nil =>
    refine e_app0 hd hs hx hsrc ho (by simpa using h1) (by simpa using h2) ?_
    exact next _ _ _ (.box nx k new hupd_self' hk) (Nat.le_succ _) (Nat.le_refl _) (fun i hi _=>hupd_ne (by omega)) (fun b hb=>by cases hb; exact .inr ⟨rfl,rfl⟩)
  | box b len cs hb hl =>
    have hle:len ≤ cs.length:=by rw [hl]; exact Nat.le_mul_of_pos_right _ hz
    have hb1:(len + k) * bytes ≤ 140737488355328:=Nat.le_trans (Nat.mul_le_mul_right _ (by omega)) h1
    refine e_app hd hs hb hx hsrc ho hl rfl hb1 (by omega) ?_
    exact next _ _ _ (.box b (len + k) (cs ++ new) hupd_self' (by rw [List.length_append,hl,hk,Nat.add_mul])) (Nat.le_refl _) (Nat.le_succ _) (fun i hi hne=>hupd_ne (fun e=>hne (by rw [e]; rfl))) (fun b' hb'=>by cases hb'; exact .inl rfl)
theorem Row.snap {H:Hp} {sz:Nat} {s:AV} {elems:List AV} (h:Row H sz s (elems.flatMap AV.cells)) (hc:∀ y ∈ elems,y.cells.length=sz) (hz:0 < sz) (hd:∀ y ∈ elems,∀ c ∈ y.cells,Dat c):Snap H s (.sl sz elems):=by
  obtain ⟨f1,f2⟩:=flatMap_cells_get elems hc
  generalize he:elems.flatMap AV.cells=cs at h
  cases h with
  | nil =>
    have:elems.length * sz=0:=by rw [← f1,he]; rfl
    have:elems=[]:=List.length_eq_zero_iff.1 (by
      rcases Nat.mul_eq_zero.1 this with h | h
      · exact h
      · omega)
    subst this; exact .eslsl sz
  | box b len cs hb hl =>
    have hlen:elems.length=len:=Nat.eq_of_mul_eq_mul_right hz (by rw [← f1,he,hl])
    refine .msl b (len * sz) sz 0 len cs elems hb hl (by omega) hlen hc (fun i j y a c hy hc' ha=>?_)
    have hj:j < sz:=by rw [← hc y (List.mem_of_getElem? hy)]; exact (List.getElem?_eq_some_iff.1 hc').1
    have key:∀ (l:List AV) (i j:Nat) (y c:AV),(∀ z ∈ l,z.cells.length=sz)→l[i]?=some y→y.cells[j]?=some c→j < sz→(l.flatMap AV.cells)[i * sz + j]?=some c:=by
      intro l
      induction l with
      | nil=>intro i j y c _ h; simp at h
      | cons x l ih =>
        intro i j y c hl hy hc hj
        rw [List.flatMap_cons]
        cases i with
        | zero =>
          simp at hy; subst hy
          rw [Nat.zero_mul,Nat.zero_add,List.getElem?_append_left (by rw [hl x (by simp)]; exact hj)]; exact hc
        | succ i =>
          rw [List.getElem?_append_right (by rw [hl x (by simp),Nat.add_mul]; omega),hl x (by simp)]
          have:=ih i j y c (fun z hz=>hl z (by simp [hz])) (by simpa using hy) hc hj
          rw [← this]; congr 1; rw [Nat.add_mul]; omega
    have:=key elems i j y c hc hy hc' hj
    rw [he,← Nat.zero_add (i * sz)] at this
    rw [this] at ha; cases ha
    exact hd y (List.mem_of_getElem? hy) a (List.mem_of_getElem? hc') H
theorem cells_map_one {α:Type} {f:α→AV} (h:∀ x,(f x).cells=[f x]) (l:List α):(l.map f).flatMap AV.cells=l.map f:=by
  induction l with
  | nil=>rfl
  | cons a l ih=>rw [List.map_cons,List.flatMap_cons,ih,h]; rfl
theorem Row.snapV {H:Hp} {s:AV} {l:List (List Int)} (h:Row H 1 s (l.map encV)):Snap H s (encVV l):=by
  refine Row.snap (elems:=l.map encV) (by rw [cells_map_one (fun _=>rfl)]; exact h) (fun y hy=>?_) Nat.one_pos (fun y hy c hc=>?_)
  · simp at hy; obtain ⟨n,_,rfl⟩:=hy; rfl
  · simp at hy; obtain ⟨n,_,rfl⟩:=hy
    simp only [cells_encV,List.mem_singleton] at hc; subst hc; exact encV_dat n
theorem w_seqC {K:CP} {x y:C2} (M:SP) (h1:awp2 P x T H nx fun e T H nx=>athen e (M T H nx) (K e T H nx)) (h2:∀ T H nx,M T H nx→awp2 P y T H nx K):awp2 P (.seq x y) T H nx K:=by
  refine w_seq (awp2_mono x h1 (fun e T H nx h=>?_))
  cases e with
  | normal=>exact h2 T H nx h
  | exit i=>exact h
  | ret=>exact h
end Go.Abs
