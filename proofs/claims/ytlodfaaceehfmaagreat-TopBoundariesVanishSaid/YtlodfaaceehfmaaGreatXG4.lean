/- Texts of this claim, one after the other: AbsI, AbsI2, AbsO, Code, U1, T100, T101, T102, T103. -/
import Derived.Test.YtlodfaaceehfmaaGreatXG3
import Derived.ChangeArms
import Derived.Carry
import Derived.Deep.Slices
import Derived.Lib.SmallJoins
import Derived.Test.YtlodfaaceehfmaaGreatProg
import Derived.KernelRfl

set_option linter.unusedSimpArgs false
set_option linter.unusedVariables false
set_option maxHeartbeats 1000000
namespace Go.Abs
open Go.RowKit
inductive PT (α:Type) where
 | leaf
 | node (v:Option α) (l r:PT α)
def PT.get {α:Type}:PT α→Nat→Option α
 | .leaf,_=>none
 | .node v l r,n=>match n with
  | 0=>v
  | n + 1=>match n % 2 with
   | 0=>l.get (n / 2)
   | _ + 1=>r.get (n / 2)
def PT.set {α:Type}:Nat→PT α→Nat→Option α→Option (PT α)
 | 0,_,_,_=>none
 | k + 1,t,n,x=>match t with
  | .leaf=>match n with
   | 0=>some (.node x .leaf .leaf)
   | n + 1=>match n % 2 with
    | 0=>match PT.set k .leaf (n / 2) x with
     | some l=>some (.node none l .leaf)
     | none=>none
    | _ + 1=>match PT.set k .leaf (n / 2) x with
     | some r=>some (.node none .leaf r)
     | none=>none
  | .node v l r=>match n with
   | 0=>some (.node x l r)
   | n + 1=>match n % 2 with
    | 0=>match PT.set k l (n / 2) x with
     | some l=>some (.node v l r)
     | none=>none
    | _ + 1=>match PT.set k r (n / 2) x with
     | some r=>some (.node v l r)
     | none=>none
theorem PT.get_even {α:Type} {v:Option α} {l r:PT α} {n:Nat} (h:n % 2=0):(PT.node v l r).get (n + 1)=l.get (n / 2):=by
 simp only [PT.get,h]
theorem PT.get_odd {α:Type} {v:Option α} {l r:PT α} {n:Nat} (h:n % 2=1):(PT.node v l r).get (n + 1)=r.get (n / 2):=by
 simp only [PT.get,h]
theorem PT.get_set {α:Type}:∀ (k:Nat) {t t':PT α} {n:Nat} {x:Option α},PT.set k t n x=some t'→∀ m,t'.get m=if m=n then x else t.get m
 | 0,_,_,_,_,h=>by cases h
 | k + 1,t,t',n,x,h=>by
  intro m;have two:∀ a:Nat,a % 2=0 ∨ a % 2=1:=fun a=>by omega
  cases t with
  | leaf =>
   cases n with
   | zero =>
    cases h;cases m with
    | zero=>rfl
    | succ m =>
     rw [if_neg (by omega)];rcases two m with e | e
     ·rw [get_even e]; rfl
     ·rw [get_odd e]; rfl
   | succ n =>
    rcases two n with en | en
    ·simp only [PT.set,en] at h;split at h
     ·rename_i l hl;cases h;have ih:=PT.get_set k hl;cases m with
      | zero=>rw [if_neg (by omega)]; rfl
      | succ m =>
       rcases two m with e | e
       ·rw [get_even e,ih];by_cases hh:m / 2=n / 2
        ·rw [if_pos hh,if_pos (by omega)]
        ·rw [if_neg hh,if_neg (by omega)]; rfl
       ·rw [get_odd e,if_neg (by omega)]; rfl
     ·cases h
    ·simp only [PT.set,en] at h;split at h
     ·rename_i l hl;cases h;have ih:=PT.get_set k hl;cases m with
      | zero=>rw [if_neg (by omega)]; rfl
      | succ m =>
       rcases two m with e | e
       ·rw [get_even e,if_neg (by omega)]; rfl
       ·rw [get_odd e,ih];by_cases hh:m / 2=n / 2
        ·rw [if_pos hh,if_pos (by omega)]
        ·rw [if_neg hh,if_neg (by omega)]; rfl
     ·cases h
  | node v l r =>
   cases n with
   | zero =>
    cases h;cases m with
    | zero=>rfl
    | succ m =>
     rw [if_neg (by omega)];rcases two m with e | e
     ·rw [get_even e,get_even e]
     ·rw [get_odd e,get_odd e]
   | succ n =>
    rcases two n with en | en
    ·simp only [PT.set,en] at h;split at h
     ·rename_i l' hl;cases h;have ih:=PT.get_set k hl;cases m with
      | zero=>rw [if_neg (by omega)]; rfl
      | succ m =>
       rcases two m with e | e
       ·rw [get_even e,ih,get_even e];by_cases hh:m / 2=n / 2
        ·rw [if_pos hh,if_pos (by omega)]
        ·rw [if_neg hh,if_neg (by omega)]
       ·rw [get_odd e,if_neg (by omega),get_odd e]
     ·cases h
    ·simp only [PT.set,en] at h;split at h
     ·rename_i l' hl;cases h;have ih:=PT.get_set k hl;cases m with
      | zero=>rw [if_neg (by omega)]; rfl
      | succ m =>
       rcases two m with e | e
       ·rw [get_even e,if_neg (by omega),get_even e]
       ·rw [get_odd e,ih,get_odd e];by_cases hh:m / 2=n / 2
        ·rw [if_pos hh,if_pos (by omega)]
        ·rw [if_neg hh,if_neg (by omega)]
     ·cases h
inductive BC where
 | cells (cs:List AV)
 | mark (e:Option AEx)
abbrev TT:=PT AV
abbrev HT:=PT BC
abbrev LV:=Nat→Option AEx→List AV
def bcL (L:LV) (n:Nat):Option BC→Option (List AV)
 | some (.cells cs)=>some cs
 | some (.mark e)=>some (L n e)
 | none=>none
def bc0:Option BC→Option (List AV)
 | some (.cells cs)=>some cs
 | _=>none
def toT (t:TT):Tm:=fun n=>(t.get n).getD .undef
def toH (L:LV) (t:HT):Hp:=fun n=>bcL L n (t.get n)
def dD (t:HT):Hp:=fun n=>bc0 (t.get n)
def LIM:Nat:=24
theorem cE {L:LV} {t:HT}:Sub (dD t) (toH L t):=fun b cs h=>by
 unfold dD at h;unfold toH;cases hg:t.get b with
 | none=>rw [hg] at h; cases h
 | some c =>
  rw [hg] at h;cases c with
  | cells x=>exact h
  | mark e=>cases h
theorem we {k:Nat} {T T':TT} {d:Nat} {v:AV} (h:PT.set k T d (some v)=some T'):toT T'=upd (toT T) d v:=by
 funext m
 simp only [toT,upd,PT.get_set k h];split <;> rfl
theorem gA {L:LV} {k:Nat} {H H':HT} {b:Nat} {cs:List AV} (h:PT.set k H b (some (.cells cs))=some H'):toH L H'=aq (toH L H) b cs:=by
 funext m
 simp only [toH,aq,PT.get_set k h];split <;> rfl
theorem ou {L:LV} {k:Nat} {H H':HT} {b:Nat} {e:Option AEx} (h:PT.set k H b (some (.mark e))=some H'):toH L H'=aq (toH L H) b (L b e):=by
 funext m
 simp only [toH,aq,PT.get_set k h];split
 ·rename_i hm; subst hm; rfl
 ·rfl
theorem vh {L:LV} {k:Nat} {H H':HT} {b:Nat} (h:PT.set k H b none=some H'):toH L H'=cK (toH L H) b:=by
 funext m
 simp only [toH,cK,PT.get_set k h];split <;> rfl
def stT (T:TT) (d:Option Nat) (v:AV):Option TT:=match d with
 | none=>some T
 | some d=>PT.set LIM T d (some v)
theorem lX {T T':TT} {d:Option Nat} {v:AV} (h:stT T d v=some T'):toT T'=aJ (toT T) d v:=by
 cases d with
 | none=>cases h; rfl
 | some d=>exact we h
def jN:Nat→List AV→TT→Option TT
 | _,[],T=>some T
 | i,x :: l,T=>match PT.set LIM T i (some x) with
  | some T=>jN (i + 1) l T
  | none=>none
theorem mZ:∀ (l:List AV) (i:Nat) {T T':TT},jN i l T=some T'→∀ m,toT T' m=if i ≤ m∧m < i + l.length then l.getD (m - i) .undef else toT T m
 | [],i,T,T',h,m=>by cases h; rw [if_neg (by simp only [fL]; omega)]
 | x :: l,i,T,T',h,m=>by
  simp only [jN] at h;split at h
  ·rename_i T1 h1;rw [mZ l (i + 1) h m,we h1];simp only [upd,bN];by_cases e:m=i
   ·subst e;rw [if_neg (by omega),if_pos rfl,if_pos (by omega)];simp
   ·by_cases e2:i + 1 ≤ m∧m < i + 1 + l.length
    ·rw [if_pos e2,if_pos (by omega)];obtain ⟨j,rfl⟩:∃ j,m=i + 1 + j:=⟨m - (i + 1),by omega⟩
     rw [show i + 1 + j - (i + 1)=j by omega,show i + 1 + j - i=j + 1 by omega];rfl
    ·rw [if_neg e2,if_neg e,if_neg (by omega)]
  ·cases h
def D0 (l:List AV):Option TT:=jN 0 l .leaf
theorem Bz {l:List AV} {T:TT} (h:D0 l=some T):toT T=T0 l:=by
 funext m
 rw [mZ l 0 h m];simp only [T0,cf,true_and,cb,Nat.sub_zero];split
 ·rfl
 ·rename_i hm;have:l[m]?=none:=by simp; omega
  simp [List.getD,this,toT,PT.get]
def frN {α:Type} (n:Nat) (K:Nat→α):α:=match n with
 | 0=>K 0
 | m + 1=>K (m + 1)
def frI {α:Type} (n:Int) (K:Int→α):α:=match n with
 | .ofNat m=>frN m fun m=>K (.ofNat m)
 | .negSucc m=>frN m fun m=>K (.negSucc m)
def frV {α:Type} (x:AV) (K:AV→α):α:=match x with
 | .int k n=>frI n fun n=>K (.int k n)
 | .ptr b n off=>frN b fun b=>frN n fun n=>frN off fun off=>K (.ptr b n off)
 | .msl b n sz off len=>frN b fun b=>frN n fun n=>frN sz fun sz=>frN off fun off=>frN len fun len=>K (.msl b n sz off len)
 | x=>K x
def frL {α:Type}:List AV→(List AV→α)→α
 | [],K=>K []
 | x :: l,K=>frV x fun x=>frL l fun l=>K (x :: l)
theorem CV {α:Type} {n:Nat} {K:Nat→α}:frN n K=K n:=by cases n <;> rfl
theorem GP {α:Type} {n:Int} {K:Int→α}:frI n K=K n:=by cases n <;> simp [frI,CV]
theorem nw {α:Type} {x:AV} {K:AV→α}:frV x K=K x:=by cases x <;> simp [frV,GP,CV]
theorem kR {α:Type}:∀ {l:List AV} {K:List AV→α},frL l K=K l
 | [],_=>rfl
 | x :: l,K=>by simp [frL,nw,kR]
def touch (T:Tm) (nx:Nat):Ins→Option Nat
 | .alloc _=>some nx
 | .box _=>some nx
 | .bldS _ len _ _=>if len=0 then none else some nx
 | .mks ..=>some nx
 | .st _ p _=>match ov T p with
  | .ptr b _ _=>some b
  | _=>none
 | .app _ _ s _=>match ov T s with
  | .esl=>some nx
  | .msl b _ _ _ _=>some b
  | _=>none
 | .apz ..=>some nx
 | _=>none
theorem sk {S H:Hp} (hs:Sub S H) {sz:Nat} {x:AV} {r:Nat × List AV} (h:ef sz S x=some r):ef sz H x=some r:=by
 cases x <;> simp only [ef] at h ⊢ <;> try (first | exact h | (cases h; done))
 rename_i b n sz' off len;split at h
 ·rename_i h0; rw [if_pos h0]; exact h
 ·rename_i h0;rw [if_neg h0];split at h
  ·rename_i cs hb;rw [hs b cs hb]; exact h
  ·cases h
theorem BH {S H:Hp} (hs:Sub S H) {T:Tm} {i:Ins} {r:AV} (h:bu T S i=some r):bu T H i=some r:=by
 cases i <;> try exact h
 ·exact vw hs h
 ·rename_i k a;simp only [bu] at h ⊢;cases hr:rd S k (ov T a) with
  | none=>rw [hr] at h; cases h
  | some l=>rw [hr] at h; rw [z7 hs hr]; exact h
theorem nF {S H:Hp} (hs:Sub S H) {T:Tm} {a:RV} {r:AV} (h:rv T S a=some r):rv T H a=some r:=by
 cases a with
 | t n=>exact h
 | c1 n=>exact vw hs h
 | cn n k =>
  simp only [rv] at h ⊢;cases hr:rd S k (T n) with
  | none=>rw [hr] at h; cases h
  | some l=>rw [hr] at h; rw [z7 hs hr]; exact h
theorem zU {T:Tm} {S S' H:Hp} (hs:Sub S H) {nx nx':Nat} {i:Ins} {r:AV} (h:gg T S nx i=some (r,S',nx')) :
    (touch T nx i=none→gg T H nx i=some (r,H,nx'))∧∀ b,touch T nx i=some b→∃ cs,S'=aq S b cs∧gg T H nx i=some (r,aq H b cs,nx'):=by
 cases i <;> simp only [gg] at h ⊢ <;> try (cases h; done)
 case alloc z =>
  unfold qG at h ⊢;split at h <;> cases h
  rename_i hz;rw [if_pos hz];exact ⟨fun h=>by simp [touch] at h,fun b h=>by simp [touch] at h; subst h; exact ⟨_,rfl,rfl⟩⟩
 case box x =>
  unfold qG at h ⊢;split at h <;> cases h
  rename_i hz;rw [if_pos hz];exact ⟨fun h=>by simp [touch] at h,fun b h=>by simp [touch] at h; subst h; exact ⟨_,rfl,rfl⟩⟩
 case bldS sz len z parts =>
  split at h
  ·rename_i hl;rw [if_pos hl];split at h <;> cases h
   rename_i hp;rw [if_pos hp];exact ⟨fun _=>rfl,fun b h=>by simp [touch,hl] at h⟩
  ·rename_i hl;rw [if_neg hl];split at h <;> cases h
   exact ⟨fun h=>by simp [touch,hl] at h,fun b h=>by simp [touch,hl] at h; subst h; exact ⟨_,rfl,rfl⟩⟩
 case mks sz bytes z l c =>
  split at h
  ·rename_i h1 h2;split at h <;> cases h
   rename_i hc;rw [if_pos hc];exact ⟨fun h=>by simp [touch] at h,fun b h=>by simp [touch] at h; subst h; exact ⟨_,rfl,rfl⟩⟩
  ·cases h
 case apz sz bytes z s x =>
  split at h
  ·rename_i h1 h2;split at h <;> cases h
   rename_i hc;rw [if_pos hc];exact ⟨fun h=>by simp [touch] at h,fun b h=>by simp [touch] at h; subst h; exact ⟨_,rfl,rfl⟩⟩
  ·cases h
 case st k p x =>
  split at h
  ·rename_i b n off hp;split at h
   ·rename_i cs hb;split at h <;> cases h
    rename_i hc;simp only [hs b cs hb];rw [if_pos hc];exact ⟨fun h=>by simp [touch,hp] at h,fun b h=>by simp [touch,hp] at h; subst h; exact ⟨_,rfl,rfl⟩⟩
   ·cases h
  ·cases h
 case app sz bytes s x =>
  unfold Ex at h ⊢;split at h
  ·cases h
  ·rename_i k new hsrc;rw [sk hs hsrc];simp only;split at h
   ·rename_i hone;rw [if_pos hone];split at h
    ·rename_i he;split at h <;> cases h
     rename_i hc;rw [if_pos hc];exact ⟨fun h=>by simp [touch,he] at h,fun b h=>by simp [touch,he] at h; subst h; exact ⟨_,rfl,rfl⟩⟩
    ·rename_i b n s' off len he;split at h
     ·rename_i cs hb;simp only [hs b cs hb];split at h
      ·rename_i hc;rw [if_pos hc];split at h
       ·rename_i hc2;rw [if_pos hc2];cases h;exact ⟨fun h=>by simp [touch,he] at h,fun b h=>by simp [touch,he] at h; subst h; exact ⟨_,rfl,rfl⟩⟩
       ·rename_i hc2;rw [if_neg hc2];split at h
        ·rename_i hc3;rw [if_pos hc3];cases h;exact ⟨fun h=>by simp [touch,he] at h,fun b h=>by simp [touch,he] at h; subst h; exact ⟨_,rfl,rfl⟩⟩
        ·rename_i hc3;rw [if_neg hc3];split at h <;> cases h
         rename_i hc4;rw [if_pos hc4];exact ⟨fun h=>by simp [touch,he] at h,fun b h=>by simp [touch,he] at h; subst h; exact ⟨_,rfl,rfl⟩⟩
      ·cases h
     ·cases h
    ·cases h
   ·cases h
def Hs (T:TT) (H:HT) (nx:Nat) (i:Ins):Option (AV × HT × Nat) :=
 match gg (toT T) (dD H) nx i with
 | none=>none
 | some (r,H',nx')=>match touch (toT T) nx i with
  | none=>some (r,H,nx')
  | some b=>match H' b with
   | none=>none
   | some cs=>frL cs fun cs=>match PT.set LIM H b (some (.cells cs)) with
    | some H2=>some (r,H2,nx')
    | none=>none
theorem Fw {L:LV} {T:TT} {H H2:HT} {nx nx':Nat} {i:Ins} {r:AV} (h:Hs T H nx i=some (r,H2,nx')):gg (toT T) (toH L H) nx i=some (r,toH L H2,nx'):=by
 unfold Hs at h;split at h
 ·cases h
 ·rename_i r1 H1 nx1 he;obtain ⟨t1,t2⟩:=zU (cE (L:=L)) he;split at h
  ·rename_i ht;cases h;exact t1 ht
  ·rename_i b ht;obtain ⟨cs,rfl,e⟩:=t2 b ht;rw [show aq (dD H) b cs b=some cs from if_pos rfl] at h;simp only [kR] at h;split at h
   ·rename_i H3 hset;cases h;rw [e,gA hset]
   ·cases h
def mt:List AV→Option (List UInt8)
 | []=>some []
 | .int .u8 n :: l=>if 0 ≤ n∧n.toNat < 256 then (match mt l with | some bs=>some (UInt8.ofNat n.toNat :: bs) | none=>none) else none
 | _ :: _=>none
theorem sZ:∀ {l:List AV} {bs:List UInt8},mt l=some bs→l=bs.map mN
 | [],bs,h=>by cases h; rfl
 | x :: l,bs,h=>by
  cases x <;> try (simp only [mt] at h; cases h; done)
  rename_i k n;cases k <;> try (simp only [mt] at h; cases h; done)
  simp only [mt] at h;split at h
  ·rename_i hn;split at h
   ·rename_i bs' hb;cases h;rw [dR,← sZ hb]
    congr 1
    unfold mN;rw [UInt8.toNat_ofNat_of_lt' hn.2]
    congr 1
    omega
   ·cases h
  ·cases h
def rsp (T:Tm) (H:HT) (nx:Nat):Ins→Option (AV × HT × Nat)
 | .mkm h=>match h with
  | none=>match PT.set LIM H nx (some (.cells [.omap [] []])) with
   | some H'=>some (.mp nx,H',nx + 1)
   | none=>none
  | some x=>match ov T x with
   | .int _ _=>match PT.set LIM H nx (some (.cells [.omap [] []])) with
    | some H'=>some (.mp nx,H',nx + 1)
    | none=>none
   | _=>none
 | .mput k m key x=>match ov T m with
  | .mp b=>match H.get b with
   | some (.cells [.omap ks vs])=>if gO k (ov T key)=true then match cJ k (ov T key) ks with
       | some r=>frL (cw (ov T key) r ks) fun ks=>frL (ft (ov T x) r vs) fun vs=>match PT.set LIM H b (some (.cells [.omap ks vs])) with
        | some H'=>some (.tup [],H',nx)
        | none=>none
       | none=>none
    else none
   | _=>none
  | _=>none
 | .mget k z ok m key=>match ov T m with
  | .mp b=>match H.get b with
   | some (.cells [.omap ks vs])=>if gO k (ov T key)=true then match cJ k (ov T key) ks with
       | some r=>some (Go.Abs.mget z ok r vs,H,nx)
       | none=>none
    else none
   | _=>none
  | _=>none
 | .mplc k z m key=>match ov T m with
  | .mp b=>match H.get b with
   | some (.cells [.omap ks vs])=>if gO k (ov T key)=true then match cJ k (ov T key) ks with
       | some r=>frL (cw (ov T key) r ks) fun ks'=>frL (kX z r vs) fun vs'=>match PT.set LIM H b (some (.cells [.omap ks' vs'])) with
        | some H'=>some (.tup [yW z r vs,.int .i64 (xi r ks)],H',nx)
        | none=>none
       | none=>none
    else none
   | _=>none
  | _=>none
 | .mpst m s x=>match ov T m with
  | .mp b=>match H.get b with
   | some (.cells [.omap ks vs])=>match ov T s with
    | .int .i64 (.ofNat i)=>if i < ks.length then frL (vs.set i (ov T x)) fun vs'=>match PT.set LIM H b (some (.cells [.omap ks vs'])) with
     | some H'=>some (.tup [],H',nx)
     | none=>none
     else none
    | _=>none
   | _=>none
  | _=>none
 | .mlen m=>match ov T m with
  | .mp b=>match H.get b with
   | some (.cells [.omap ks vs])=>some (.int .i64 ks.length,H,nx)
   | _=>none
  | _=>none
 | .cpy sz d s=>match ku sz (ov T d) (ov T s) (dD H) with
  | none=>none
  | some (n,H')=>match n with
   | 0=>some (.int .i64 (0:Nat),H,nx)
   | n + 1=>match ov T d with
    | .msl b _ _ _ _=>match H' b with
     | some cs=>frL cs fun cs=>match PT.set LIM H b (some (.cells cs)) with
      | some H2=>some (.int .i64 (n + 1:Nat),H2,nx)
      | none=>none
     | none=>none
    | _=>none
 | .clr sz z x=>match lY sz z (ov T x) (dD H) with
  | none=>none
  | some H'=>match ov T x with
   | .msl b _ _ _ 0=>some (.tup [],H,nx)
   | .msl b _ _ _ (_ + 1)=>match H' b with
    | some cs=>frL cs fun cs=>match PT.set LIM H b (some (.cells cs)) with
     | some H2=>some (.tup [],H2,nx)
     | none=>none
    | none=>none
   | _=>none
 | .slp len sz x=>match ov T x with
  | .ptr b n off=>match H.get b with
   | some (.cells cs)=>if cs.length=n∧off + len * sz=n then some (.msl b n sz off len,H,nx) else none
   | _=>none
  | _=>none
 | .snil neg x=>match fD (ov T x) with
  | some (k + 1)=>some (.bool neg,H,nx)
  | _=>none
 | .s2b x=>match ov T x with
  | .str bs=>if bs.size=0 then some (.sl 1 [],H,nx) else frL (bs.data.toList.map mN) fun cs=>match PT.set LIM H nx (some (.cells cs)) with
   | some H'=>some (.msl nx bs.size 1 0 bs.size,H',nx + 1)
   | none=>none
  | _=>none
 | .b2s x=>match ef 1 (dD H) (ov T x) with
  | some (n,l)=>match mt l with
   | some bs=>some (.str ⟨bs.toArray⟩,H,nx)
   | none=>none
  | none=>none
 | _=>none
theorem yg {sz n:Nat} {d s:AV} {S S' H:Hp} (hs:Sub S H) (h:ku sz d s S=some (n,S')):(n=0→ku sz d s H=some (0,H))∧(n ≠ 0→∀ b m z o l,d=.msl b m z o l→∃ cs,S'=aq S b cs∧ku sz d s H=some (n,aq H b cs)):=by
 unfold ku at h ⊢;split at h
 ·rename_i ld ls h1 h2;split at h
  ·rename_i hm;rw [if_pos hm];cases h; exact ⟨fun _=>rfl,fun h=>absurd rfl h⟩
  ·rename_i hm;rw [if_neg hm];split at h
   ·split at h
    ·rename_i cs m new hb hsrc;simp only [hs _ _ hb,sk hs hsrc];split at h
     ·rename_i hc;rw [if_pos hc];cases h;refine ⟨fun h=>absurd h hm,fun _ b m z o l e=>?_⟩;cases e; exact ⟨_,rfl,rfl⟩
     ·cases h
    ·cases h
   ·cases h
 ·cases h
theorem wh {sz:Nat} {z x:AV} {S S' H:Hp} (hs:Sub S H) (h:lY sz z x S=some S'):∀ b m s o l,x=.msl b m s o l→(l=0→lY sz z x H=some H)∧(l ≠ 0→∃ cs,S'=aq S b cs∧lY sz z x H=some (aq H b cs)):=by
 intro b m s o l hx;subst hx;simp only [lY] at h ⊢;split at h
 ·rename_i h0;rw [if_pos h0];exact ⟨fun _=>rfl,fun h=>absurd h0 h⟩
 ·rename_i h0;rw [if_neg h0];refine ⟨fun h=>absurd h h0,fun _=>?_⟩;split at h
  ·rename_i cs hb;simp only [hs _ _ hb];split at h
   ·rename_i hc;rw [if_pos hc];cases h;exact ⟨_,rfl,rfl⟩
   ·cases h
  ·cases h
theorem js {L:LV} {H:HT} {b:Nat} {cs:List AV} (h:H.get b=some (.cells cs)):toH L H b=some cs:=by
 simp only [toH,h,bcL]
theorem Hy {L:LV} {T:Tm} {H H2:HT} {nx nx':Nat} {i:Ins} {r:AV} {K:AV→Hp→Nat→Prop} (h:rsp T H nx i=some (r,H2,nx')) (hK:K r (toH L H2) nx'):isp i T (toH L H) nx K:=by
 cases i <;> simp only [rsp] at h <;> try (cases h; done)
 case mkm x =>
  cases x with
  | none =>
   simp only at h;split at h
   ·rename_i H' hs;cases h;exact ⟨.inl rfl,.inl (by rw [gA hs] at hK; exact hK)⟩
   ·cases h
  | some x =>
   simp only at h;split at h
   ·rename_i k n hx;split at h
    ·rename_i H' hs;cases h;exact ⟨.inr ⟨x,k,n,rfl,hx⟩,.inl (by rw [gA hs] at hK; exact hK)⟩
    ·cases h
   ·cases h
 case mput k m key x =>
  split at h
  ·rename_i b hm;split at h
   ·rename_i ks vs hb;split at h
    ·rename_i hf;split at h
     ·rename_i r1 hr;simp only [kR] at h;split at h
      ·rename_i H' hs;cases h;exact .inl ⟨b,ks,vs,r1,hm,js hb,hf,hr,by rw [gA hs] at hK; exact hK⟩
      ·cases h
     ·cases h
    ·cases h
   ·cases h
  ·cases h
 case mget k z ok m key =>
  split at h
  ·rename_i b hm;split at h
   ·rename_i ks vs hb;split at h
    ·rename_i hf;split at h
     ·rename_i r1 hr;cases h;exact .inl ⟨b,ks,vs,r1,hm,js hb,hf,hr,hK⟩
     ·cases h
    ·cases h
   ·cases h
  ·cases h
 case mplc k z m key =>
  split at h
  ·rename_i b hm;split at h
   ·rename_i ks vs hb;split at h
    ·rename_i hf;split at h
     ·rename_i r1 hr;simp only [kR] at h;split at h
      ·rename_i H' hs;cases h;exact ⟨b,ks,vs,r1,hm,js hb,hf,hr,by rw [gA hs] at hK; exact hK⟩
      ·cases h
     ·cases h
    ·cases h
   ·cases h
  ·cases h
 case mpst m s x =>
  split at h
  ·rename_i b hm;split at h
   ·rename_i ks vs hb;split at h
    ·rename_i i hi;split at h
     ·rename_i hlt;simp only [kR] at h;split at h
      ·rename_i H' hs;cases h;exact ⟨b,ks,vs,i,hm,js hb,hi,hlt,by rw [gA hs] at hK; exact hK⟩
      ·cases h
     ·cases h
    ·cases h
   ·cases h
  ·cases h
 case mlen m =>
  split at h
  ·rename_i b hm;split at h
   ·rename_i ks vs hb;cases h;exact .inl ⟨b,ks,vs,hm,js hb,hK⟩
   ·cases h
  ·cases h
 case cpy sz d s =>
  split at h
  ·cases h
  ·rename_i n H' hc;obtain ⟨t1,t2⟩:=yg (cE (L:=L)) hc;split at h
   ·cases h;exact ⟨0,_,t1 rfl,hK⟩
   ·rename_i n;split at h
    ·rename_i b m z o l hd;obtain ⟨cs,rfl,e⟩:=t2 (Nat.succ_ne_zero _) _ _ _ _ _ hd;rw [show aq (dD H) b cs b=some cs from if_pos rfl] at h;simp only [kR] at h;split at h
     ·rename_i H3 hs;cases h;exact ⟨_,_,e,by rw [gA hs] at hK; exact hK⟩
     ·cases h
    ·cases h
 case clr sz z x =>
  split at h
  ·cases h
  ·rename_i H' hc;have ht:=wh (cE (L:=L)) hc;split at h
   ·rename_i b m s o hx;cases h;exact ⟨_,(ht _ _ _ _ _ hx).1 rfl,hK⟩
   ·rename_i b m s o l hx;obtain ⟨cs,rfl,e⟩:=(ht _ _ _ _ _ hx).2 (Nat.succ_ne_zero _);rw [show aq (dD H) b cs b=some cs from if_pos rfl] at h;simp only [kR] at h;split at h
    ·rename_i H3 hs;cases h;exact ⟨_,e,by rw [gA hs] at hK; exact hK⟩
    ·cases h
   ·cases h
 case slp len sz x =>
  split at h
  ·rename_i b n off hx;split at h
   ·rename_i cs hb;split at h
    ·rename_i hc;cases h;exact ⟨b,n,off,cs,hx,js hb,hc.1,hc.2,hK⟩
    ·cases h
   ·cases h
  ·cases h
 case snil neg x =>
  split at h
  ·rename_i k hx;cases h;exact ⟨k + 1,hx,fun _=>hK,fun h=>absurd h (Nat.succ_ne_zero _)⟩
  ·cases h
 case s2b x =>
  split at h
  ·rename_i bs hx;split at h
   ·rename_i h0;cases h;exact ⟨bs,hx,fun _=>hK,fun h=>absurd h0 h⟩
   ·rename_i h0;simp only [kR] at h;split at h
    ·rename_i H' hs;cases h;exact ⟨bs,hx,fun h=>absurd h h0,fun _=>by rw [gA hs] at hK; exact hK⟩
    ·cases h
  ·cases h
 case b2s x =>
  split at h
  ·rename_i n l hx;split at h
   ·rename_i bs hb;cases h;exact ⟨n,bs,by rw [sk cE hx,sZ hb],hK⟩
   ·cases h
  ·cases h
def dg (f:AV→Option AV):List AV→Option (List AV)
 | []=>some []
 | x :: l=>match f x with
  | some y=>match dg f l with
   | some m=>some (y :: m)
   | none=>none
  | none=>none
theorem c9 {f:AV→Option AV}:∀ {l m:List AV},dg f l=some m→m.length=l.length∧∀ (i:Nat) (a c:AV),l[i]?=some a→m[i]?=some c→f a=some c
 | [],m,h=>by cases h; exact ⟨rfl,by simp⟩
 | x :: l,m,h=>by
  simp only [dg] at h;split at h
  ·rename_i y hy;split at h
   ·rename_i m' hm;cases h;obtain ⟨h1,h2⟩:=c9 hm;refine ⟨by simp [h1],fun i a c ha hc=>?_⟩;cases i with
    | zero=>simp at ha hc; subst ha hc; exact hy
    | succ i=>exact h2 i a c (by simpa using ha) (by simpa using hc)
   ·cases h
  ·cases h
def mkE:List AV→AV
 | [.agg a]=>.agg [.agg a]
 | [c]=>c
 | cs=>.agg cs
theorem Cb (cs:List AV):(mkE cs).cells=cs:=by
 rcases cs with _ | ⟨a,_ | ⟨b,l⟩⟩
 ·rfl
 ·cases a <;> rfl
 ·cases a <;> rfl
def oW (sz:Nat):Nat→List AV→List AV
 | 0,_=>[]
 | n + 1,ds=>mkE (ds.take sz) :: oW sz n (ds.drop sz)
theorem pF (sz:Nat):∀ (n:Nat) (ds:List AV),(oW sz n ds).length=n
 | 0,_=>rfl
 | n + 1,ds=>by simp [oW,pF]
theorem pA (sz:Nat):∀ (n:Nat) (ds:List AV),ds.length=n * sz→∀ (i:Nat) (y:AV),(oW sz n ds)[i]?=some y→y.cells.length=sz∧∀ (j:Nat) (c:AV),y.cells[j]?=some c→ds[i * sz + j]?=some c
 | 0,_,_,i,y,h=>by simp [oW] at h
 | n + 1,ds,hl,i,y,h=>by
  rw [eZ,Nat.one_mul] at hl;cases i with
  | zero =>
   simp only [oW,qM,jM] at h;subst h;rw [Cb];refine ⟨by rw [iO]; omega,fun j c hc=>?_⟩;rw [vV,cb];rw [gw] at hc;split at hc
   ·exact hc
   ·cases hc
  | succ i =>
   simp only [oW,yp] at h;obtain ⟨h1,h2⟩:=pA sz n (ds.drop sz) (by rw [xU]; omega) i y h;refine ⟨h1,fun j c hc=>?_⟩;have:=h2 j c hc;rw [ji] at this;rw [← this]
   congr 1
   rw [eZ]; omega
def Em (f:AV→Option AV):AV→Option AV
 | .agg cs=>match dg f cs with
  | some ds=>some (.agg ds)
  | none=>none
 | x=>match f x with
  | some (.agg _)=>none
  | some y=>some y
  | none=>none
theorem wP {f:AV→Option AV} {x y:AV} (h:Em f x=some y):y.cells.length=x.cells.length∧∀ (j:Nat) (a b:AV),x.cells[j]?=some a→y.cells[j]?=some b→f a=some b:=by
 unfold Em at h;split at h
 ·split at h
  ·rename_i hm;cases h;exact c9 hm
  ·cases h
 ·rename_i hna;have hx:x.cells=[x]:=by cases x <;> first | rfl | exact absurd rfl (hna _)
  split at h
  ·cases h
  ·rename_i y' hny hy;cases h;have hyc:y.cells=[y]:=by cases y <;> first | rfl | exact absurd hy (by intro hh; exact hny _ rfl)
   rw [hx,hyc];refine ⟨rfl,fun j a b ha hb=>?_⟩;cases j with
   | zero=>simp at ha hb; subst ha hb; exact hy
   | succ j=>simp at ha
  ·cases h
def snapV (H:Hp):Nat→AV→Option AV
 | 0,_=>none
 | k + 1,x=>match x with
  | .bool b=>some (.bool b)
  | .int k n=>some (.int k n)
  | .str s=>some (.str s)
  | .nilp=>some .nilp
  | .nilf=>some .nilf
  | .nilm=>some .nilm
  | .esl=>some .esl
  | .sl sz l=>match dg (Em (snapV H k)) l with
   | some m=>some (.sl sz m)
   | none=>none
  | .msl b n sz off len=>match len with
   | 0=>some (.sl sz [])
   | len + 1=>match H b with
    | some cs=>if cs.length=n∧off + (len + 1) * sz ≤ n then match dg (snapV H k) ((cs.drop off).take ((len + 1) * sz)) with
        | some ds=>some (.sl sz (oW sz (len + 1) ds))
        | none=>none
     else none
    | none=>none
  | .ptr b n off=>match H b with
   | some cs=>if cs.length=n then match dg (snapV H k) cs with
       | some ds=>some (.iptr ds off)
       | none=>none
    else none
   | none=>none
  | .iptr cs off=>match dg (snapV H k) cs with
   | some ds=>some (.iptr ds off)
   | none=>none
  | .func f cs=>match dg (snapV H k) cs with
   | some ds=>some (.func f ds)
   | none=>none
  | .agg cs=>match dg (snapV H k) cs with
   | some ds=>some (.agg ds)
   | none=>none
  | .tup cs=>match dg (snapV H k) cs with
   | some ds=>some (.tup ds)
   | none=>none
  | _=>none
theorem dz {S H:Hp} (hs:Sub S H):∀ (k:Nat) {x y:AV},snapV S k x=some y→Snap H x y
 | 0,_,_,h=>by cases h
 | k + 1,x,y,h=>by
  have ih:=@dz S H hs k
  have om:∀ {l m:List AV},dg (snapV S k) l=some m→m.length=l.length∧∀ (i:Nat) (a c:AV),l[i]?=some a→m[i]?=some c→Snap H a c:=fun hm =>
   ⟨(c9 hm).1,fun i a c ha hc=>ih ((c9 hm).2 i a c ha hc)⟩
  cases x <;> simp only [snapV] at h <;> try (cases h; done)
  case bool=>cases h; exact .bool _
  case int=>cases h; exact .int _ _
  case str=>cases h; exact .str _
  case nilp=>cases h; exact .nilp
  case nilf=>cases h; exact .nilf
  case nilm=>cases h; exact .nilm
  case esl=>cases h; exact .esl
  case sl sz l =>
   split at h
   ·rename_i m hm;cases h;obtain ⟨h1,h2⟩:=c9 hm;exact .sl sz l m h1.symm (fun i x y hx hy=>(wP (h2 i x y hx hy)).1) (fun i j x y a b hx hy ha hb=>ih ((wP (h2 i x y hx hy)).2 j a b ha hb))
   ·cases h
  case msl b n sz off len =>
   split at h
   ·cases h; exact .mslnil _ _ _ _ _
   ·rename_i len;split at h
    ·rename_i cs hb;split at h
     ·rename_i hc;split at h
      ·rename_i ds hds;cases h;obtain ⟨h1,h2⟩:=om hds;have hdl:ds.length=(len + 1) * sz:=by rw [h1,iO,xU]; omega
       have hg:=pA sz (len + 1) ds hdl;refine .msl b n sz off (len + 1) cs _ (hs _ _ hb) hc.1 hc.2 (pF _ _ _) (fun y hy=>?_) (fun i j y a c hy hc' ha=>?_)
       ·obtain ⟨i,hi⟩:=tU hy;exact (hg i y hi).1
       ·obtain ⟨g1,g2⟩:=hg i y hy;have g3:=g2 j c hc';refine h2 (i * sz + j) a c ?_ g3
        have hlt:i * sz + j < (len + 1) * sz:=by
         rw [← hdl]; exact (bA.1 g3).1
        rw [gw,if_pos hlt,ji,← ha]
        congr 1; omega
      ·cases h
     ·cases h
    ·cases h
  case ptr b n off =>
   split at h
   ·rename_i cs hb;split at h
    ·rename_i hn;split at h
     ·rename_i ds hds;cases h;exact .ptr b n off cs ds (hs _ _ hb) hn (by rw [(om hds).1,hn]) (om hds).2
     ·cases h
    ·cases h
   ·cases h
  case iptr cs off =>
   split at h
   ·rename_i ds hds;cases h;exact .iptr cs ds off (om hds).1 (om hds).2
   ·cases h
  case func f cs =>
   split at h
   ·rename_i ds hds;cases h;exact .func f cs ds (om hds).1 (om hds).2
   ·cases h
  case agg cs =>
   split at h
   ·rename_i ds hds;cases h;exact .agg cs ds (om hds).1 (om hds).2
   ·cases h
  case tup cs =>
   split at h
   ·rename_i ds hds;cases h;exact .tup cs ds (om hds).1 (om hds).2
   ·cases h
theorem Snap.self {H H':Hp} {x y:AV} (h:Snap H x y):Snap H' y y:=by
 induction h with
 | bool b=>exact .bool _
 | int k n=>exact .int _ _
 | str s=>exact .str _
 | nilp=>exact .nilp
 | nilf=>exact .nilf
 | nilm=>exact .nilm
 | esl=>exact .esl
 | eslsl sz=>exact .slnil _ _
 | sl sz l l' hl hc h ih =>
  refine .sl sz l' l' rfl (fun i x y hx hy=>by rw [hx] at hy; cases hy; rfl) (fun i j x y a b hx hy ha hb=>?_);rw [hx] at hy; cases hy;rw [ha] at hb; cases hb;have hlt:i < l.length:=by rw [hl]; exact (bA.1 hx).1
  have hz:l[i]?=some l[i]:=by simp [hlt]
  have hcl:=hc i _ _ hz hx;have hj:j < l[i].cells.length:=by rw [← hcl]; exact (bA.1 ha).1
  exact ih i j l[i] x l[i].cells[j] a hz hx (by simp [hj]) ha
 | slnil sz sz'=>exact .slnil _ _
 | msl b n sz off len cs l' hb hn hfit hl hc h ih =>
  refine .sl sz l' l' rfl (fun i x y hx hy=>by rw [hx] at hy; cases hy; rfl) (fun i j x y a c hx hy ha hc'=>?_);rw [hx] at hy; cases hy;rw [ha] at hc'; cases hc';have hi:i < len:=by rw [← hl]; exact (bA.1 hx).1
  have hj:j < sz:=by rw [← hc x (fK hx)]; exact (bA.1 ha).1
  have hlt:off + i * sz + j < cs.length:=by
   have:(i + 1) * sz ≤ len * sz:=jT _ hi;rw [eZ] at this; omega
  exact ih i j x cs[off + i * sz + j] a hx ha (by simp [hlt])
 | mslnil b n sz off sz'=>exact .slnil _ _
 | ptr b n off cs cs' hb hn hl h ih =>
  refine .iptr cs' cs' off rfl (fun i a c ha hc=>?_);rw [ha] at hc; cases hc;have hlt:i < cs.length:=by rw [hn,← hl]; exact (bA.1 ha).1
  exact ih i cs[i] a (by simp [hlt]) ha
 | iptr cs cs' off hl h ih =>
  refine .iptr cs' cs' off rfl (fun i a c ha hc=>?_);rw [ha] at hc; cases hc;have hlt:i < cs.length:=by rw [← hl]; exact (bA.1 ha).1
  exact ih i cs[i] a (by simp [hlt]) ha
 | func f cs cs' hl h ih =>
  refine .func f cs' cs' rfl (fun i a c ha hc=>?_);rw [ha] at hc; cases hc;have hlt:i < cs.length:=by rw [← hl]; exact (bA.1 ha).1
  exact ih i cs[i] a (by simp [hlt]) ha
 | agg cs cs' hl h ih =>
  refine .agg cs' cs' rfl (fun i a c ha hc=>?_);rw [ha] at hc; cases hc;have hlt:i < cs.length:=by rw [← hl]; exact (bA.1 ha).1
  exact ih i cs[i] a (by simp [hlt]) ha
 | tup cs cs' hl h ih =>
  refine .tup cs' cs' rfl (fun i a c ha hc=>?_);rw [ha] at hc; cases hc;have hlt:i < cs.length:=by rw [← hl]; exact (bA.1 ha).1
  exact ih i cs[i] a (by simp [hlt]) ha
theorem Fn.of_pureZ {P:Program} {f:FuncId} {args args':List AV} {r:AV} (hp:Pure P f args' r) {H Hf H':Hp} {nx:Nat} (hsub:∀ b cs,Hf b=some cs→H b=some cs) (hH:∀ b cs,H' b=some cs→H b=some cs∧Hf b=none) (hs:aQ Hf args args')
    {R:AV→Hp→Nat→Prop} (hR:R r H' nx):Fn P f args H nx R:=by
 refine ⟨hp.1,fun E w vs hE hh hfr hv=>?_⟩
 have hsim:Sim E { n:=vs.length } ⟨T0 args,H,nx⟩ { tmps:=vs.toArray,defers:=[] } w:=by
  refine ⟨hE,hh,hfr,fun l hl=>(by cases hl),cf _,by simp,fun t=>?_,⟨qJ,fun d hd=>(by cases hd)⟩⟩;show Rel E w (T0 args t) (vs.toArray.getD t Go.undef);by_cases ht:t < args.length
  ·have h1:args[t]?=some args[t]:=by simp [ht]
   have h2:vs[t]?=some (vs[t]'(by rw [hv.1]; exact ht)):=by simp [hv.1,ht]
   have:=hv.2 t _ _ h1 h2;have e1:T0 args t=args[t]:=by simp [T0,List.getD,ht]
   have e2:vs.toArray.getD t Go.undef=vs[t]'(by rw [hv.1]; exact ht):=by simp [Array.getD,hv.1,ht]
   rw [e1,e2]; exact this
  ·have e1:T0 args t=.undef:=by simp [T0,List.getD,ht]
   rw [e1]; exact .undef _
 have hg:Gh (T0 args) H nx (T0 args') H' nx Hf:=by
  refine ⟨hsub,aP _,fun b cs' hb=>?_,fun t=>?_⟩
  ·obtain ⟨h1,h2⟩:=hH b cs' hb;exact .inl ⟨cs',h1,h2,rfl,fun i x x' hx hx'=>.inl (by rw [hx] at hx'; cases hx'; rfl)⟩
  ·by_cases ht:t < args.length
   ·have h1:args[t]?=some args[t]:=by simp [ht]
    have h2:args'[t]?=some (args'[t]'(by rw [hs.1]; exact ht)):=by simp [hs.1,ht]
    have:=hs.2 t _ _ h1 h2;have e1:T0 args t=args[t]:=by simp [T0,List.getD,ht]
    have e2:T0 args' t=args'[t]'(by rw [hs.1]; exact ht):=by simp [T0,List.getD,hs.1,ht]
    right; right; left;rw [e1,e2]; exact this
   ·left;simp [T0,List.getD,hs.1,ht]
 obtain ⟨E',he,hsim'⟩:=hsim.ghost hg
 have hself:aQ bT args' args':=⟨rfl,fun i x y hx hy=>by
  rw [hx] at hy; cases hy;have hlt:i < args.length:=by rw [← hs.1]; exact (bA.1 hx).1
  exact (hs.2 i args[i] x (by simp [hlt]) hx).self⟩
 have hv':dy E' w args' vs:=by
  refine ⟨by rw [hv.1,hs.1],fun i x v hx hvi=>?_⟩;have hlt:i < vs.length:=(bA.1 hvi).1;have hla:i < args'.length:=(bA.1 hx).1;have:=hsim'.tmps i
  have e1:T0 args' i=x:=by
   have:=(bA.1 hx).2;simp [T0,List.getD,hx]
  have e2:vs.toArray.getD i Go.undef=v:=by
   have:=(bA.1 hvi).2;simp [Array.getD,hlt,this]
  simp only at this;rw [e1,e2] at this;exact this
 refine ((Fn.of_pure hp (.inl hself) (H:=H') (nx:=nx) (R:=R) hR).2 E' w vs hsim'.env hsim'.heap hsim'.fresh hv').mono ?_;rintro e w' ⟨v,E2,r2,H2,nx2,k1,k2,k3,k4,k5,k6,k7⟩;exact ⟨v,E2,r2,H2,nx2,k1,he.trans k2,k3,k4,k5,k6,k7⟩
def jg (H:Hp):Nat→AV→Option AV
 | 0,_=>none
 | k + 1,x=>match x with
  | .bool b=>some (.bool b)
  | .int k n=>some (.int k n)
  | .str s=>some (.str s)
  | .nilp=>some .nilp
  | .nilf=>some .nilf
  | .nilm=>some .nilm
  | .esl=>some .esl
  | .sl sz l=>match l with
   | []=>some (.sl sz [])
   | _ :: _=>none
  | .msl b n sz off len=>match len with
   | 0=>some (.sl sz [])
   | len + 1=>match H b with
    | some cs=>if cs.length=n∧off + (len + 1) * sz ≤ n then match dg (jg H k) ((cs.drop off).take ((len + 1) * sz)) with
        | some ds=>some (.sl sz (oW sz (len + 1) ds))
        | none=>none
     else none
    | none=>none
  | .ptr b n off=>match H b with
   | some cs=>if cs.length=n then match dg (jg H k) cs with
       | some ds=>some (.iptr ds off)
       | none=>none
    else none
   | none=>none
  | .func f cs=>match dg (jg H k) cs with
   | some ds=>some (.func f ds)
   | none=>none
  | .agg cs=>match dg (jg H k) cs with
   | some ds=>some (.agg ds)
   | none=>none
  | .tup cs=>match dg (jg H k) cs with
   | some ds=>some (.tup ds)
   | none=>none
  | _=>none
theorem pI {S H:Hp} (hs:Sub S H):∀ (k:Nat) {x y:AV},jg S k x=some y→SnapF H x y
 | 0,_,_,h=>by cases h
 | k + 1,x,y,h=>by
  have ih:=@pI S H hs k
  have om:∀ {l m:List AV},dg (jg S k) l=some m→m.length=l.length∧∀ (i:Nat) (a c:AV),l[i]?=some a→m[i]?=some c→SnapF H a c:=fun hm =>
   ⟨(c9 hm).1,fun i a c ha hc=>ih ((c9 hm).2 i a c ha hc)⟩
  cases x <;> simp only [jg] at h <;> try (cases h; done)
  case bool=>cases h; exact .bool _
  case int=>cases h; exact .int _ _
  case str=>cases h; exact .str _
  case nilp=>cases h; exact .nilp
  case nilf=>cases h; exact .nilf
  case nilm=>cases h; exact .nilm
  case esl=>cases h; exact .esl
  case sl sz l =>
   split at h
   ·cases h; exact .slnil _ _
   ·cases h
  case msl b n sz off len =>
   split at h
   ·cases h; exact .mslnil _ _ _ _ _
   ·rename_i len;split at h
    ·rename_i cs hb;split at h
     ·rename_i hc;split at h
      ·rename_i ds hds;cases h;obtain ⟨h1,h2⟩:=om hds;have hdl:ds.length=(len + 1) * sz:=by rw [h1,iO,xU]; omega
       have hg:=pA sz (len + 1) ds hdl;refine .msl b n sz off (len + 1) cs _ (hs _ _ hb) hc.1 hc.2 (pF _ _ _) (fun y hy=>?_) (fun i j y a c hy hc' ha=>?_)
       ·obtain ⟨i,hi⟩:=tU hy;exact (hg i y hi).1
       ·obtain ⟨g1,g2⟩:=hg i y hy;have g3:=g2 j c hc';refine h2 (i * sz + j) a c ?_ g3
        have hlt:i * sz + j < (len + 1) * sz:=by
         rw [← hdl]; exact (bA.1 g3).1
        rw [gw,if_pos hlt,ji,← ha]
        congr 1; omega
      ·cases h
     ·cases h
    ·cases h
  case ptr b n off =>
   split at h
   ·rename_i cs hb;split at h
    ·rename_i hn;split at h
     ·rename_i ds hds;cases h;exact .ptr b n off cs ds (hs _ _ hb) hn (by rw [(om hds).1,hn]) (om hds).2
     ·cases h
    ·cases h
   ·cases h
  case func f cs =>
   split at h
   ·rename_i ds hds;cases h;exact .func f cs ds (om hds).1 (om hds).2
   ·cases h
  case agg cs =>
   split at h
   ·rename_i ds hds;cases h;exact .agg cs ds (om hds).1 (om hds).2
   ·cases h
  case tup cs =>
   split at h
   ·rename_i ds hds;cases h;exact .tup cs ds (om hds).1 (om hds).2
   ·cases h
end Go.Abs
namespace Go.Abs
open Go.RowKit
def SF:Nat:=40
abbrev CL:=FuncId→List AV→HT→Nat→Option (AV × HT × Nat)
abbrev PC:=FuncId→List AV→HT→Option AV
def FT (cl:CL) (pc:PC) (yl:CL) (dm:DM) (i:Ins) (T:TT) (H:HT) (nx:Nat):Option (AV × HT × Nat) :=
 match ic i with
 | .val=>match dm2 dm (toT T) i with
  | true=>match bu (toT T) (dD H) i with
   | some r=>some (r,H,nx)
   | none=>none
  | false=>none
 | .eff=>match dm2 dm (toT T) i with
  | true=>Hs T H nx i
  | false=>none
 | .call=>match i with
  | .call f args=>match ov (toT T) f with
   | .func g caps=>match dm.isText with
    | true=>cl g (args.map (ov (toT T)) ++ caps) H nx
    | false=>match pc g (args.map (ov (toT T)) ++ caps) H with
     | some r=>some (r,H,nx)
     | none=>none
   | .bfn g fs=>match dm.isText with
    | true=>cl g (fs ++ args.map (ov (toT T))) H nx
    | false=>none
   | .yld b=>match dm.isText with
    | true=>yl b (args.map (ov (toT T))) H nx
    | false=>none
   | _=>none
  | _=>none
 | .sp=>match dm.isText with
  | true=>rsp (toT T) H nx i
  | false=>none
def vB (cl:CL) (pc:PC) (yl:CL) (dm:DM):List Op2→TT→HT→Nat→Option (TT × HT × Nat)
 | [],T,H,nx=>some (T,H,nx)
 | o :: l,T,H,nx=>match g2 (toT T) o.g with
  | none=>none
  | some false=>match stT T o.d (.tup []) with
   | some T=>vB cl pc yl dm l T H nx
   | none=>none
  | some true=>match FT cl pc yl dm o.i T H nx with
   | none=>none
   | some (r,H,nx)=>frV r fun r=>match stT T o.d r with
    | some T=>vB cl pc yl dm l T H nx
    | none=>none
structure CLok (P:Program) (L:LV) (cl:CL) (pc:PC) (yl:CL):Prop where
 cl:∀ {g:FuncId} {args:List AV} {H H':HT} {nx nx':Nat} {r:AV} {R:AV→Hp→Nat→Prop},cl g args H nx=some (r,H',nx')→R r (toH L H') nx'→Fn P g args (toH L H) nx R
 pc:∀ {g:FuncId} {args:List AV} {H:HT} {r:AV},pc g args H=some r→lS P g args (toH L H) r
 yl:∀ {g:Nat} {args:List AV} {H H':HT} {nx nx':Nat} {r:AV} {R:AV→Hp→Nat→Prop},yl g args H nx=some (r,H',nx')→R r (toH L H') nx'→Yl P g args (toH L H) nx R
theorem A1 {P:Program} {L:LV} {cl:CL} {pc:PC} {yl:CL} (hk:CLok P L cl pc yl) {dm:DM} {i:Ins} {T:TT} {H H':HT} {nx nx':Nat} {r:AV} {K:AV→Hp→Nat→Prop}
    (h:FT cl pc yl dm i T H nx=some (r,H',nx')) (hK:K r (toH L H') nx'):bm P dm i (toT T) (toH L H) nx K:=by
 unfold FT at h;unfold bm;cases hi:ic i with
 | val =>
  rw [hi] at h;simp only at h ⊢;split at h
  ·rename_i hd;split at h
   ·rename_i r' hr;cases h;exact ⟨hd,by rw [BH cE hr]; exact hK⟩
   ·cases h
  ·cases h
 | eff =>
  rw [hi] at h;simp only at h ⊢;split at h
  ·rename_i hd;exact ⟨hd,by rw [Fw h]; exact hK⟩
  ·cases h
 | sp =>
  rw [hi] at h;simp only at h ⊢;split at h
  ·rename_i hd;exact ⟨hd,Hy h hK⟩
  ·cases h
 | call =>
  rw [hi] at h;simp only at h ⊢;cases i <;> try (cases hi; done)
  rename_i f args;simp only at h ⊢;cases hf:ov (toT T) f <;> rw [hf] at h <;> simp only at h <;> try (cases h; done)
  ·rename_i g caps;left;show match dm.isText with | false=>_ | true=>_
   cases hd:dm.isText with
   | true=>rw [hd] at h; exact hk.cl h hK
   | false =>
    rw [hd] at h;simp only at h;split at h
    ·rename_i r' hr;cases h;exact ⟨_,hk.pc hr,hK⟩
    ·cases h
  ·rename_i g fs;right;cases hd:dm.isText with
   | true=>rw [hd] at h; exact ⟨rfl,.inr ⟨g,fs,rfl,hk.cl h hK⟩⟩
   | false=>rw [hd] at h; cases h
  ·rename_i b;right;cases hd:dm.isText with
   | true=>rw [hd] at h; exact ⟨rfl,.inl ⟨b,rfl,hk.yl h hK⟩⟩
   | false=>rw [hd] at h; cases h
theorem jV {P:Program} {L:LV} {cl:CL} {pc:PC} {yl:CL} (hk:CLok P L cl pc yl) {dm:DM} {K:SP}:∀ {l:List Op2} {T T':TT} {H H':HT} {nx nx':Nat},
    vB cl pc yl dm l T H nx=some (T',H',nx')→K (toT T') (toH L H') nx'→am P dm l (toT T) (toH L H) nx K
 | [],_,_,_,_,_,_,h,hK=>by cases h; exact hK
 | o :: l,T,T',H,H',nx,nx',h,hK=>by
  simp only [vB] at h;show aZ (g2 (toT T) o.g) _ _;cases hg:g2 (toT T) o.g with
  | none=>rw [hg] at h; cases h
  | some b =>
   rw [hg] at h;cases b with
   | false =>
    simp only at h;split at h
    ·rename_i T1 hs;have:=jV hk h hK;rw [lX hs] at this;exact this
    ·cases h
   | true =>
    simp only at h;split at h
    ·cases h
    ·rename_i r H1 nx1 hr;simp only [nw] at h;split at h
     ·rename_i T1 hs;have:=jV hk h hK;rw [lX hs] at this;exact A1 (K:=fun r H nx=>am P dm l (aJ (toT T) o.d r) H nx K) hk hr this
     ·cases h
def kr (f:AV→AV→Bool):List AV→List AV→Bool
 | [],[]=>true
 | x :: l,y :: m=>match f x y with
  | true=>kr f l m
  | false=>false
 | _,_=>false
theorem rK {f:AV→AV→Bool} (h:∀ x y,f x y=true→x=y):∀ {l m:List AV},kr f l m=true→l=m
 | [],[],_=>rfl
 | [],_ :: _,h=>by cases h
 | _ :: _,[],h=>by cases h
 | x :: l,y :: m,he=>by
  simp only [kr] at he;split at he
  ·rename_i hx;rw [h _ _ hx,rK h he]
  ·cases he
def qL:Nat→AV→AV→Bool
 | 0,_,_=>false
 | k + 1,x,y=>match x with
  | .undef=>match y with
   | .undef=>true
   | _=>false
  | .bool a=>match y with
   | .bool b=>decide (a=b)
   | _=>false
  | .int j a=>match y with
   | .int i b=>decide (j=i) && decide (a=b)
   | _=>false
  | .str a=>match y with
   | .str b=>decide (a=b)
   | _=>false
  | .nilp=>match y with
   | .nilp=>true
   | _=>false
  | .nilf=>match y with
   | .nilf=>true
   | _=>false
  | .nilm=>match y with
   | .nilm=>true
   | _=>false
  | .esl=>match y with
   | .esl=>true
   | _=>false
  | .ptr b n o=>match y with
   | .ptr b' n' o'=>Nat.beq b b' && Nat.beq n n' && Nat.beq o o'
   | _=>false
  | .msl b n s o l=>match y with
   | .msl b' n' s' o' l'=>Nat.beq b b' && Nat.beq n n' && Nat.beq s s' && Nat.beq o o' && Nat.beq l l'
   | _=>false
  | .mp b=>match y with
   | .mp b'=>Nat.beq b b'
   | _=>false
  | .yld b=>match y with
   | .yld b'=>Nat.beq b b'
   | _=>false
  | .sl s l=>match y with
   | .sl s' l'=>Nat.beq s s' && kr (qL k) l l'
   | _=>false
  | .iptr l s=>match y with
   | .iptr l' s'=>Nat.beq s s' && kr (qL k) l l'
   | _=>false
  | .func s l=>match y with
   | .func s' l'=>Nat.beq s s' && kr (qL k) l l'
   | _=>false
  | .agg l=>match y with
   | .agg l'=>kr (qL k) l l'
   | _=>false
  | .tup l=>match y with
   | .tup l'=>kr (qL k) l l'
   | _=>false
  | .omap l m=>match y with
   | .omap l' m'=>kr (qL k) l l' && kr (qL k) m m'
   | _=>false
  | _=>false
theorem vq:∀ (k:Nat) (x y:AV),qL k x y=true→x=y
 | 0,_,_,h=>by cases h
 | k + 1,x,y,h=>by
  have ih:∀ {l m:List AV},kr (qL k) l m=true→l=m:=fun h=>rK (vq k) h;cases x <;> simp only [qL] at h <;> (try (cases h; done)) <;> cases y <;> simp only [dS,gJ] at h <;> (try (cases h; done)) <;> (try rfl)
  ·rw [h]
  ·rw [h.1,h.2]
  ·rw [h]
  ·rw [mL h.1.1,mL h.1.2,mL h.2]
  ·rw [mL h.1,ih h.2]
  ·rw [mL h.1,ih h.2]
  ·rw [mL h.1.1.1.1,mL h.1.1.1.2,mL h.1.1.2,mL h.1.2,mL h.2]
  ·rw [show _=_ from mL h.1,ih h.2]
  ·rw [mL h]
  ·rw [mL h]
  ·rw [ih h]
  ·rw [ih h]
  ·rw [ih h.1,ih h.2]
def loadAt (T:Tm):Ins→Option Nat
 | .ld1 a=>match ov T a with
  | .ptr b _ _=>some b
  | _=>none
 | .ldn _ a=>match ov T a with
  | .ptr b _ _=>some b
  | _=>none
 | _=>none
def jf:List (Op2 × Nat)→TT→HT→List Nat→List Nat
 | [],_,_,acc=>acc
 | (o,0) :: l,T,H,acc=>match g2 (toT T) o.g with
  | some true=>match bu (toT T) (dD H) o.i with
   | some r=>match stT T o.d r with
    | some T'=>match loadAt (toT T) o.i with
     | some b=>jf l T' H (b :: acc)
     | none=>jf l T' H acc
    | none=>acc
   | none=>jf l T H acc
  | _=>jf l T H acc
 | (o,4) :: l,T,H,acc=>match o.i with
  | .mget _ _ _ m _=>match ov (toT T) m with
   | .mp b=>jf l T H (b :: acc)
   | _=>jf l T H acc
  | _=>jf l T H acc
 | (_,_ + 1) :: l,T,H,acc=>jf l T H acc
def sy (H0 H:HT):List Nat→Bool
 | []=>true
 | b :: l=>match dD H0 b with
  | none=>sy H0 H l
  | some x=>match dD H b with
   | some y=>match kr (qL SF) x y with
    | true=>sy H0 H l
    | false=>false
   | none=>false
def p9 (H0:HT) (ids:List Nat):Hp:=fun b=>match ids.elem b with
 | true=>dD H0 b
 | false=>none
theorem sX {H0 H:HT}:∀ {ids:List Nat},sy H0 H ids=true→∀ b cs,ids.elem b=true→dD H0 b=some cs→dD H b=some cs
 | [],_,b,cs,hb,_=>by cases hb
 | a :: l,h,b,cs,hb,hc=>by
  simp only [sy] at h
  have hb':b=a ∨ l.elem b=true:=by
   rw [List.elem_cons] at hb;cases e:b == a with
   | true=>exact .inl (eq_of_beq e)
   | false=>rw [e] at hb; exact .inr hb
  split at h
  ·rename_i hn;rcases hb' with rfl | hb'
   ·rw [hn] at hc; cases hc
   ·exact sX h b cs hb' hc
  ·rename_i x hx;split at h
   ·rename_i y hy;split at h
    ·rename_i he;rcases hb' with rfl | hb'
     ·rw [hx] at hc; cases hc;rw [hy,rK (vq SF) he]
     ·exact sX h b cs hb' hc
    ·cases h
   ·cases h
theorem uV {L:LV} {H0 H:HT} {ids:List Nat} (h:sy H0 H ids=true):Sub (p9 H0 ids) (toH L H):=fun b cs hb=>by
 unfold p9 at hb;split at hb
 ·rename_i he;exact cE b cs (sX h b cs he hb)
 ·cases hb
def jb (cl:CL) (pc:PC) (yl:CL) (H0:HT) (ids:List Nat):List (Op2 × Nat)→TT→HT→Nat→Option (TT × HT × Nat)
 | [],T,H,nx=>some (T,H,nx)
 | (o,0) :: l,T,H,nx=>match g2 (toT T) o.g with
  | none=>none
  | some false=>match stT T o.d (.tup []) with
   | some T=>jb cl pc yl H0 ids l T H nx
   | none=>none
  | some true=>match bu (toT T) (p9 H0 ids) o.i with
   | none=>none
   | some r=>frV r fun r=>match stT T o.d r with
    | some T=>jb cl pc yl H0 ids l T H nx
    | none=>none
 | (o,k + 1) :: l,T,H,nx=>match g2 (toT T) o.g with
  | none=>none
  | some false=>match stT T o.d (.tup []) with
   | some T=>jb cl pc yl H0 ids l T H nx
   | none=>none
  | some true=>if k=2 then (match yt (toT T) o.i with
      | none=>none
      | some r=>frV r fun r=>match stT T o.d r with
       | some T=>jb cl pc yl H0 ids l T H nx
       | none=>none)
   else if k=3 then (match ilk (toT T) (p9 H0 ids) o.i with
    | none=>none
    | some r=>frV r fun r=>match stT T o.d r with
     | some T=>jb cl pc yl H0 ids l T H nx
     | none=>none)
   else match FT cl pc yl .text o.i T H nx with
    | none=>none
    | some (r,H,nx)=>match (match k with | 0=>sy H0 H ids | _=>true) with
     | true=>frV r fun r=>match stT T o.d r with
      | some T=>jb cl pc yl H0 ids l T H nx
      | none=>none
     | false=>none
theorem gb {P:Program} {L:LV} {cl:CL} {pc:PC} {yl:CL} (hk:CLok P L cl pc yl) {H0:HT} {ids:List Nat} {K:SP}:∀ {l:List (Op2 × Nat)} {T T':TT} {H H':HT} {nx nx':Nat},
    jb cl pc yl H0 ids l T H nx=some (T',H',nx')→K (toT T') (toH L H') nx'→a9 P (p9 H0 ids) l (toT T) (toH L H) nx K
 | [],_,_,_,_,_,_,h,hK=>by cases h; exact hK
 | (o,0) :: l,T,T',H,H',nx,nx',h,hK=>by
  simp only [jb] at h;show aZ (g2 (toT T) o.g) _ _;cases hg:g2 (toT T) o.g with
  | none=>rw [hg] at h; cases h
  | some b =>
   rw [hg] at h;cases b with
   | false =>
    simp only at h;split at h
    ·rename_i T1 hs;have:=gb hk h hK;rw [lX hs] at this;exact this
    ·cases h
   | true =>
    simp only at h;split at h
    ·cases h
    ·rename_i r hr;simp only [nw] at h;split at h
     ·rename_i T1 hs;have:=gb hk h hK;rw [lX hs] at this;show aG (bu (toT T) (p9 H0 ids) o.i) _;rw [hr]; exact this
     ·cases h
 | (o,k + 1) :: l,T,T',H,H',nx,nx',h,hK=>by
  simp only [jb] at h;show aZ (g2 (toT T) o.g) _ _;cases hg:g2 (toT T) o.g with
  | none=>rw [hg] at h; cases h
  | some b =>
   rw [hg] at h;cases b with
   | false =>
    simp only at h;split at h
    ·rename_i T1 hs;have:=gb hk h hK;rw [lX hs] at this;exact this
    ·cases h
   | true =>
    simp only at h;show if k=2 then _ else _
    split at h
    ·rename_i h2;rw [if_pos h2];split at h
     ·cases h
     ·rename_i r hr;simp only [nw] at h;split at h
      ·rename_i T1 hs;have:=gb hk h hK;rw [lX hs] at this;rw [hr]; exact this
      ·cases h
    ·rename_i h2;rw [if_neg h2];show if k=3 then _ else _
     split at h
     ·rename_i h3;rw [if_pos h3];split at h
      ·cases h
      ·rename_i r hr;simp only [nw] at h;split at h
       ·rename_i T1 hs;have:=gb hk h hK;rw [lX hs] at this;rw [hr]; exact this
       ·cases h
     rename_i h3;rw [if_neg h3];split at h
     ·cases h
     ·rename_i r H1 nx1 hr;split at h
      ·rename_i hkeep;simp only [nw] at h;split at h
       ·rename_i T1 hs;have:=gb hk h hK;rw [lX hs] at this;refine A1 (K:=fun r H' nx'=>(k=0→Sub (p9 H0 ids) H')∧a9 P (p9 H0 ids) l (aJ (toT T) o.d r) H' nx' K) hk hr ⟨fun hk0=>?_,this⟩;subst hk0;exact uV hkeep
       ·cases h
      ·cases h
def rvs (T:Tm) (H:Hp):List RV→Option (List AV)
 | []=>some []
 | a :: l=>match rv T H a with
  | some x=>match rvs T H l with
   | some xs=>some (x :: xs)
   | none=>none
  | none=>none
def HJ (T:Tm) (H:Hp):List RV→Option AV
 | []=>some (.tup [])
 | [a]=>rv T H a
 | [a,b]=>match rv T H a,rv T H b with
  | some x,some y=>some (.tup [x,y])
  | _,_=>none
 | [a,b,c]=>match rv T H a,rv T H b,rv T H c with
  | some x,some y,some z=>some (.tup [x,y,z])
  | _,_,_=>none
 | a :: b :: c :: d :: l=>(rvs T H (a :: b :: c :: d :: l)).map .tup
theorem xC {T:Tm} {S H:Hp} (hs:Sub S H):∀ {l:List RV} {xs:List AV} {K:List AV→Prop},rvs T S l=some xs→K xs→yr T H l K
 | [],xs,K,h,hK=>by cases h; exact hK
 | a :: l,xs,K,h,hK=>by
  simp only [rvs] at h;split at h
  ·rename_i x hx;split at h
   ·rename_i ys hy;cases h;show aG (rv T H a) _;rw [nF hs hx];exact xC hs hy hK
   ·cases h
  ·cases h
theorem Fl {T:Tm} {S H:Hp} (hs:Sub S H) {l:List RV} {r:AV} {K:AV→Prop} (h:HJ T S l=some r) (hK:K r):bI T H K l:=by
 rcases l with _ | ⟨a,_ | ⟨b,_ | ⟨c,_ | ⟨d,l⟩⟩⟩⟩ <;> simp only [HJ] at h
 ·cases h; exact hK
 ·exact r_1 (nF hs h) hK
 ·split at h
  ·rename_i x y hx hy;cases h; exact r_2 (nF hs hx) (nF hs hy) hK
  ·cases h
 ·split at h
  ·rename_i x y z hx hy hz;cases h; exact r_3 (nF hs hx) (nF hs hy) (nF hs hz) hK
  ·cases h
 ·cases ho:rvs T S (a :: b :: c :: d :: l) with
  | none=>rw [ho] at h; cases h
  | some xs =>
   rw [ho] at h;cases h;exact xC hs ho hK
structure LFr where
 y:Nat
 ps:List Nat
 a:C2
 b:C2
 T:TT
abbrev RN:=List LFr→C2→TT→HT→Nat→Option (AEx × TT × HT × Nat)
def mW (code:FuncId→Option F2) (rn:RN) (fr:List LFr):CL:=fun g args H nx =>
 match code g with
 | none=>none
 | some F=>if args.length ≤ F.n then match D0 args with
     | none=>none
     | some T=>match rn fr F.body T H nx with
      | none=>none
      | some (e,T',H',nx')=>match e.ends with
       | true=>match HJ (toT T') (dD H') F.res with
        | some r=>frV r fun r=>some (r,H',nx')
        | none=>none
       | false=>none
  else none
def oz (code:FuncId→Option F2) (rn:RN):PC:=fun g args H =>
 match dg (snapV bT SF) args with
 | some a=>match mW code rn [] g a .leaf 0 with
  | some (v,H',_)=>snapV (dD H') SF v
  | none=>none
 | none=>match dg (snapV (dD H) SF) args with
  | some a=>match mW code rn [] g a .leaf 0 with
   | some (v,H',_)=>match snapV (dD H') SF v with
    | some r=>match r.sca with
     | true=>some r
     | false=>jg (dD H') SF v
    | none=>none
   | none=>none
  | none=>none
def kA (H:Hp):Nat→List AV→List Nat→List Nat
 | 0,_,acc=>acc
 | _ + 1,[],acc=>acc
 | k + 1,x :: l,acc=>match x with
  | .msl b _ _ _ _=>match acc.elem b with
   | true=>kA H k l acc
   | false=>kA H k ((H b).getD [] ++ l) (b :: acc)
  | .ptr b _ _=>match acc.elem b with
   | true=>kA H k l acc
   | false=>kA H k ((H b).getD [] ++ l) (b :: acc)
  | .sl _ cs=>kA H k (cs ++ l) acc
  | .iptr cs _=>kA H k (cs ++ l) acc
  | .func _ cs=>kA H k (cs ++ l) acc
  | .agg cs=>kA H k (cs ++ l) acc
  | .tup cs=>kA H k (cs ++ l) acc
  | _=>kA H k l acc
def RF2:Nat:=100000
def ni:List Nat→HT→Option HT
 | [],H=>some H
 | b :: l,H=>match PT.set LIM H b none with
  | some H=>ni l H
  | none=>none
def Ed (code:FuncId→Option F2) (rn:RN):CL:=fun g args H nx =>
 match dg (snapV bT SF) args with
 | some a=>match mW code rn [] g a .leaf 0 with
  | some (v,H',_)=>match snapV (dD H') SF v with
   | some r=>some (r,H,nx)
   | none=>none
  | none=>none
 | none=>match dg (snapV (dD H) SF) args with
  | some a=>match mW code rn [] g a .leaf 0 with
   | some (v,H',_)=>match snapV (dD H') SF v with
    | some r=>match r.sca with
     | true=>some (r,H,nx)
     | false=>match jg (dD H') SF v with
      | some r=>some (r,H,nx)
      | none=>match ni (kA (dD H) RF2 args []) H with
       | some H2=>match dg (snapV (fun b=>match (dD H2 b).isSome with | true=>none | false=>dD H b) SF) args with
        | some a2=>match mW code rn [] g a2 .leaf 0 with
         | some (v,H',_)=>match snapV (dD H') SF v with
          | some r=>some (r,H2,nx)
          | none=>none
         | none=>none
        | none=>none
       | none=>none
    | none=>none
   | none=>none
  | none=>none
structure CT where
 c:FuncId→List AV→Nat→Option AV
 q:FuncId→List AV→Option AV
def Ja:CT:=⟨fun _ _ _=>none,fun _ _=>none⟩
structure CTok (P:Program) (ct:CT):Prop where
 c:∀ (g:FuncId) (args:List AV) (nx:Nat) (r:AV),ct.c g args nx=some r→∀ (H:Hp) (R:AV→Hp→Nat→Prop),R r (aq H nx []) (nx + 1)→Fn P g args H nx R
 q:∀ (g:FuncId) (args:List AV) (r:AV),ct.q g args=some r→Pure P g args r
theorem Fu {P:Program}:CTok P Ja:=⟨fun _ _ _ _ h=>(by cases h),fun _ _ _ h=>(by cases h)⟩
def zE (q:FuncId→List AV→Option AV) (g:FuncId) (args:List AV) (H:HT) (nx:Nat):Option (AV × HT × Nat) :=
 match dg (snapV bT SF) args with
 | some a=>match q g a with
  | some r=>some (r,H,nx)
  | none=>none
 | none=>match dg (snapV (dD H) SF) args with
  | some a=>match q g a with
   | some r=>match r.sca with
    | true=>some (r,H,nx)
    | false=>match ni (kA (dD H) RF2 args []) H with
     | some H2=>match dg (snapV (fun b=>match (dD H2 b).isSome with | true=>none | false=>dD H b) SF) args with
      | some a2=>match q g a2 with
       | some r2=>some (r2,H2,nx)
       | none=>none
      | none=>none
     | none=>none
   | none=>none
  | none=>none
def qg (code:FuncId→Option F2) (pf:FuncId→Bool) (ct:CT) (rn:RN) (fr:List LFr):CL:=fun g args H nx =>
 match ct.c g args nx with
 | some r=>match PT.set LIM H nx (some (.cells [])) with
  | some H2=>some (r,H2,nx + 1)
  | none=>none
 | none=>match pf g with
  | true=>match zE ct.q g args H nx with
   | some r=>some r
   | none=>Ed code rn g args H nx
  | false=>mW code rn fr g args H nx
def ry:List LFr→Nat→Option (LFr × List LFr)
 | [],_=>none
 | F :: l,y=>match Nat.beq F.y y with
  | true=>some (F,l)
  | false=>ry l y
def stL (T:TT):List Nat→List AV→Option TT
 | t :: ts,x :: xs=>match PT.set LIM T t (some x) with
  | some T=>stL T ts xs
  | none=>none
 | _,_=>some T
def DN:AEx→Bool
 | .normal=>true
 | _=>false
def xK (rn:RN) (fr:List LFr):CL:=fun y args H nx =>
 match ry fr y with
 | none=>none
 | some (F,l)=>match H.get y with
  | some (.mark none)=>match Nat.beq args.length F.ps.length with
   | true=>match stL F.T F.ps args with
    | none=>none
    | some T1=>match rn l F.a T1 H nx with
     | some (.normal,T2,H2,nx2)=>match H2.get y with
      | some (.mark none)=>match PT.set LIM H2 y none with
       | none=>none
       | some H3=>match rn l F.b T2 H3 nx2 with
        | none=>none
        | some (e,T4,H4,nx4)=>match e with
         | .normal=>match PT.set LIM H4 y (some (.mark none)) with
          | some H5=>some (.bool true,H5,nx4)
          | none=>none
         | e=>match PT.set LIM H4 y (some (.mark (some e))) with
          | some H5=>some (.bool false,H5,nx4)
          | none=>none
      | _=>none
     | _=>none
   | false=>none
  | _=>none
def Jr (m nx:Nat):DM:=match m with
 | 0=>.text
 | 1=>.draw
 | _=>.fresh nx
def Bj (m nx:Nat):DM:=match m with
 | 1=>.draw
 | _=>.fresh nx
def x9 (x:Option (TT × HT × Nat)):Option (AEx × TT × HT × Nat):=match x with
 | some (T,H,nx)=>some (.normal,T,H,nx)
 | none=>none
def run (code:FuncId→Option F2) (pf:FuncId→Bool) (ct:CT):Nat→RN
 | 0,_,_,_,_,_=>none
 | n + 1,fr,c,T,H,nx=>match c with
  | .skip=>some (.normal,T,H,nx)
  | .exit i=>some (.exit i,T,H,nx)
  | .ret=>some (.ret,T,H,nx)
  | .ops m l=>x9 (vB (qg code pf ct (run code pf ct n) fr) (oz code (run code pf ct n)) (xK (run code pf ct n) fr) (Jr m nx) l T H nx)
  | .mix m l C=>match Nat.beq m 9 with
   | true=>x9 (vB (qg code pf ct (run code pf ct n) fr) (oz code (run code pf ct n)) (xK (run code pf ct n) fr) .text (C.map fun k=>l.getD k ⟨none,none,.dead⟩) T H nx)
   | false=>match vB (qg code pf ct (run code pf ct n) fr) (oz code (run code pf ct n)) (xK (run code pf ct n) fr) (Bj m nx) l T H nx with
    | some x=>x9 (some x)
    | none=>x9 (vB (qg code pf ct (run code pf ct n) fr) (oz code (run code pf ct n)) (xK (run code pf ct n) fr) .text (C.map fun k=>l.getD k ⟨none,none,.dead⟩) T H nx)
  | .mixS m l C=>match (match Nat.beq m 9 with
      | true=>none
      | false=>vB (qg code pf ct (run code pf ct n) fr) (oz code (run code pf ct n)) (xK (run code pf ct n) fr) (Bj m nx) l T H nx) with
   | some x=>x9 (some x)
   | none=>match sy H H (jf (C.map fun k=>(l.getD k.1 ⟨none,none,.dead⟩,k.2)) T H []) with
    | true=>x9 (jb (qg code pf ct (run code pf ct n) fr) (oz code (run code pf ct n)) (xK (run code pf ct n) fr) H (jf (C.map fun k=>(l.getD k.1 ⟨none,none,.dead⟩,k.2)) T H []) (C.map fun k=>(l.getD k.1 ⟨none,none,.dead⟩,k.2)) T H nx)
    | false=>none
  | .mixF _ _ _ _=>none
  | .seq a b=>match run code pf ct n fr a T H nx with
   | some (.normal,T,H,nx)=>run code pf ct n fr b T H nx
   | r=>r
  | .cond c a b=>match ov (toT T) c with
   | .bool true=>run code pf ct n fr a T H nx
   | .bool false=>run code pf ct n fr b T H nx
   | _=>none
  | .block id b=>match run code pf ct n fr b T H nx with
   | some (e,T,H,nx)=>some (lB id e,T,H,nx)
   | none=>none
  | .loop b=>match run code pf ct n fr b T H nx with
   | some (.normal,T,H,nx)=>run code pf ct n fr (.loop b) T H nx
   | r=>r
  | .rangeF g ps a b=>match ov (toT T) g with
   | .func f caps=>match ry fr nx with
    | some _=>none
    | none=>match PT.set LIM H nx (some (.mark none)) with
     | none=>none
     | some H1=>match mW code (run code pf ct n) (⟨nx,ps,a,b,T⟩ :: fr) f (.yld nx :: caps) H1 (nx + 1) with
      | none=>none
      | some (_,H2,nx2)=>match H2.get nx with
       | some (.mark st)=>match PT.set LIM H2 nx none with
        | none=>none
        | some H3=>match st with
         | none=>some (.normal,T,H3,nx2)
         | some e=>match DN e with
          | true=>none
          | false=>some (e,T,H3,nx2)
       | _=>none
   | _=>none
def lj (P:Program) (code:FuncId→Option F2):Prop:=∀ {f:FuncId} {F:F2},code f=some F→Is P f F
def eR (P:Program) (L:LV):List LFr→Prop
 | []=>True
 | F :: fr => (∀ (args : List AV) (H' : Hp) (nx' : Nat) (K' : AV → Hp → Nat → Prop), H' F.y = some (L F.y none) → args.length = F.ps.length →
       aM P F.a (ja (toT F.T) F.ps args) H' nx' (fun e T2 H2 nx2=>aX e (H2 F.y=some (L F.y none)∧aM P F.b T2 (cK H2 F.y) nx2 fun e T3 H3 nx3=>aX e (K' (.bool true) (aq H3 F.y (L F.y none)) nx3) (K' (.bool false) (aq H3 F.y (L F.y (some e))) nx3)) False) →
       Yl P F.y args H' nx' K')∧eR P L fr
def Gq:List Nat→FuncId→Bool
 | [],_=>false
 | k :: l,f=>match Nat.beq k f with
  | true=>true
  | false=>Gq l f
theorem yv {P:Program} {L:LV}:∀ {fr:List LFr} {y:Nat} {F:LFr} {l:List LFr},eR P L fr→ry fr y=some (F,l)→F.y=y∧eR P L (F :: l)
 | [],_,_,_,_,h=>by cases h
 | G :: fr,y,F,l,hf,h=>by
  simp only [ry] at h;split at h
  ·rename_i e;cases h;exact ⟨mL e,hf⟩
  ·exact yv hf.2 h
theorem sJ {P:Program} {L L':LV} {y:Nat} (hL:∀ b e,b ≠ y→L' b e=L b e):∀ {fr:List LFr},eR P L fr→ry fr y=none→eR P L' fr
 | [],_,_=>trivial
 | G :: fr,hf,h=>by
  simp only [ry] at h;split at h
  ·cases h
  ·rename_i e;have hne:G.y ≠ y:=fun he=>by rw [he,Nat.beq_refl] at e; cases e
   refine ⟨?_,sJ hL hf.2 h⟩;have h1:∀ e,L' G.y e=L G.y e:=fun e=>hL _ _ hne;simp only [h1];exact hf.1
theorem DB:∀ {ts:List Nat} {xs:List AV} {T T':TT},stL T ts xs=some T'→toT T'=ja (toT T) ts xs
 | [],_,_,_,h=>by cases h; rfl
 | _ :: _,[],_,_,h=>by cases h; rfl
 | t :: ts,x :: xs,T,T',h=>by
  simp only [stL] at h;split at h
  ·rename_i T1 h1;rw [DB h,we h1];rfl
  ·cases h
structure RunOk (P:Program) (rn:RN):Prop where
 ok:∀ {L:LV} {fr:List LFr} {c:C2} {T T':TT} {H H':HT} {nx nx':Nat} {e:AEx} {K:CP},eR P L fr→rn fr c T H nx=some (e,T',H',nx')→K e (toT T') (toH L H') nx'→aM P c (toT T) (toH L H) nx K
theorem eU {P:Program} {code:FuncId→Option F2} (hc:lj P code) {rn:RN} (hr:RunOk P rn) {L:LV} {fr:List LFr} (hf:eR P L fr) {g:FuncId} {args:List AV} {H H':HT} {nx nx':Nat} {r:AV}
    (h:mW code rn fr g args H nx=some (r,H',nx')):∃ F,Is P g F∧args.length ≤ F.n∧∀ K:AV→Hp→Nat→Prop,K r (toH L H') nx'→aM P F.body (T0 args) (toH L H) nx fun e T H nx=>a6 e.ends (bI T H (fun x=>K x H nx) F.res):=by
 unfold mW at h;split at h
 ·cases h
 ·rename_i F hF;split at h
  ·rename_i hl;split at h
   ·cases h
   ·rename_i T hT;split at h
    ·cases h
    ·rename_i e T' H1 nx1 hrun;split at h
     ·rename_i he;split at h
      ·rename_i r1 hres;simp only [nw] at h;cases h;refine ⟨F,hc hF,hl,fun K hK=>?_⟩;rw [← Bz hT];exact hr.ok hf hrun ⟨he,Fl cE hres hK⟩
      ·cases h
     ·cases h
  ·cases h
def L0:LV:=fun _ _=>[]
theorem DC {P:Program} {code:FuncId→Option F2} (hm:P.follows .mixedOrders=true) (hc:lj P code) {rn:RN} (hr:RunOk P rn) {L:LV} {g:FuncId} {args:List AV} {H:HT} {r:AV} (h:oz code rn g args H=some r):lS P g args (toH L H) r:=by
    have hf0:eR P L0 []:=trivial;have n0:Sub bT bT:=fun _ _ h=>h;unfold oz at h;split at h
    ·rename_i a ha;split at h
     ·rename_i v H' nx' hcall;obtain ⟨F,h1,h2,h3⟩:=eU hc hr hf0 hcall;have hp:Pure P g a r:=Pure.of_c2 hm h1 h2 (h3 (fun x H _=>Snap H x r) (dz cE _ h));obtain ⟨o1,o2⟩:=c9 ha;exact hp.callOk (.inl ⟨o1,fun i x y hx hy=>dz n0 _ (o2 i x y hx hy)⟩)
     ·cases h
    ·split at h
     ·rename_i a ha;obtain ⟨o1,o2⟩:=c9 ha;have hs:aQ (toH L H) args a:=⟨o1,fun i x y hx hy=>dz cE _ (o2 i x y hx hy)⟩
      split at h
      ·rename_i v H' nx' hcall;obtain ⟨F,h1,h2,h3⟩:=eU hc hr hf0 hcall;split at h
       ·rename_i r1 hr1;split at h
        ·rename_i hsc;cases h;have hp:Pure P g a r:=Pure.of_c2 hm h1 h2 (h3 (fun x H _=>Snap H x r) (dz cE _ hr1));exact hp.callOk (.inr ⟨hs,hsc⟩)
        ·have hp:fX P g a r:=fX.of_c2 hm h1 h2 (h3 (fun x H _=>SnapF H x r) (pI cE _ h));exact hp.callOk hs
       ·cases h
      ·cases h
     ·cases h
theorem nf:∀ {l:List Nat} {H H2:HT},ni l H=some H2→∀ {b:Nat} {c:BC},H2.get b=some c→H.get b=some c
 | [],_,_,h,_,_,hb=>by cases h; exact hb
 | b :: l,H,H2,h,b',c,hb=>by
  simp only [ni] at h;split at h
  ·rename_i H1 h1;have:=nf h hb;rw [PT.get_set _ h1] at this;split at this
   ·cases this
   ·exact this
  ·cases h
theorem jx {L:LV}:∀ {l:List Nat} {H H2:HT},ni l H=some H2→∀ b cs,toH L H2 b=some cs→toH L H b=some cs
 | [],_,_,h=>by cases h; exact fun _ _ h=>h
 | b :: l,H,H2,h=>by
  simp only [ni] at h;split at h
  ·rename_i H1 h1;intro b' cs hb;have:=jx h b' cs hb;rw [vh h1] at this;exact (mw this).2
  ·cases h
theorem Ew {P:Program} {code:FuncId→Option F2} (hm:P.follows .mixedOrders=true) (hc:lj P code) {rn:RN} (hr:RunOk P rn) {L:LV} {g:FuncId} {args:List AV} {H H2:HT} {nx nx':Nat} {r:AV} {R:AV→Hp→Nat→Prop} (h:Ed code rn g args H nx=some (r,H2,nx')) (hR:R r (toH L H2) nx'):Fn P g args (toH L H) nx R:=by
 have hf0:eR P L0 []:=trivial;have n0:Sub bT bT:=fun _ _ h=>h;unfold Ed at h;split at h
 ·rename_i a ha;split at h
  ·rename_i v H' nx1 hcall;split at h
   ·rename_i r1 hr1;cases h;obtain ⟨F,h1,h2,h3⟩:=eU hc hr hf0 hcall;have hp:Pure P g a r:=Pure.of_c2 hm h1 h2 (h3 (fun x H _=>Snap H x r) (dz cE _ hr1));obtain ⟨o1,o2⟩:=c9 ha;exact Fn.of_pure hp (.inl ⟨o1,fun i x y hx hy=>dz n0 _ (o2 i x y hx hy)⟩) hR
   ·cases h
  ·cases h
 ·split at h
  ·rename_i a ha;obtain ⟨o1,o2⟩:=c9 ha;have hs:aQ (toH L H) args a:=⟨o1,fun i x y hx hy=>dz cE _ (o2 i x y hx hy)⟩
   split at h
   ·rename_i v H' nx1 hcall;obtain ⟨F,h1,h2,h3⟩:=eU hc hr hf0 hcall;split at h
    ·rename_i r1 hr1;split at h
     ·rename_i hsc;cases h;have hp:Pure P g a r:=Pure.of_c2 hm h1 h2 (h3 (fun x H _=>Snap H x r) (dz cE _ hr1));exact Fn.of_pure hp (.inr ⟨hs,hsc⟩) hR
     ·split at h
      ·rename_i r2 hr2;cases h;have hp:fX P g a r:=fX.of_c2 hm h1 h2 (h3 (fun x H _=>SnapF H x r) (pI cE _ hr2));exact Fn.of_callOk (hp.callOk hs) hR
      ·split at h
       ·rename_i H3 cK;split at h
        ·rename_i a2 ha2;obtain ⟨q1,q2⟩:=c9 ha2;split at h
         ·rename_i v2 H4 nx4 hcall2;obtain ⟨F2,k1,k2,k3⟩:=eU hc hr hf0 hcall2;split at h
          ·rename_i r2 hr2;cases h;have hp:Pure P g a2 r:=Pure.of_c2 hm k1 k2 (k3 (fun x H _=>Snap H x r) (dz cE _ hr2));have hsubF:Sub (fun b=>match (dD H2 b).isSome with | true=>none | false=>dD H b) (fun b=>match (dD H2 b).isSome with | true=>none | false=>dD H b):=fun _ _ h=>h;refine Fn.of_pureZ (Hf:=fun b=>match (dD H2 b).isSome with | true=>none | false=>dD H b) hp (fun b cs hb=>?_) (fun b cs hb=>⟨jx cK b cs hb,?_⟩) ⟨q1,fun i x y hx hy=>dz hsubF _ (q2 i x y hx hy)⟩ hR
           ·split at hb
            ·cases hb
            ·exact cE b cs hb
           ·split
            ·rfl
            ·rename_i hn;have:=jx cK b cs hb;unfold dD at hn ⊢;unfold toH at hb this;cases hg:H2.get b with
             | none=>rw [hg] at hb; cases hb
             | some c =>
              cases c with
              | cells cs'=>rw [hg] at hn; cases hn
              | mark e =>
               cases hg2:H.get b with
               | none=>rfl
               | some c2=>cases c2 with
                | mark e2=>rfl
                | cells cs2=>exact absurd (nf cK hg) (by rw [hg2]; intro h; cases h)
          ·cases h
         ·cases h
        ·cases h
       ·cases h
    ·cases h
   ·cases h
  ·cases h
theorem B3 {P:Program} {q:FuncId→List AV→Option AV} (hq:∀ (g:FuncId) (args:List AV) (r:AV),q g args=some r→Pure P g args r) {L:LV} {g:FuncId} {args:List AV} {H H2:HT} {nx nx':Nat} {r:AV} {R:AV→Hp→Nat→Prop} (h:zE q g args H nx=some (r,H2,nx')) (hR:R r (toH L H2) nx'):Fn P g args (toH L H) nx R:=by
 have n0:Sub bT bT:=fun _ _ h=>h;unfold zE at h;split at h
 ·rename_i a ha;split at h
  ·rename_i r1 hr1;cases h;obtain ⟨o1,o2⟩:=c9 ha;exact Fn.of_pure (hq _ _ _ hr1) (.inl ⟨o1,fun i x y hx hy=>dz n0 _ (o2 i x y hx hy)⟩) hR
  ·cases h
 ·split at h
  ·rename_i a ha;obtain ⟨o1,o2⟩:=c9 ha;have hs:aQ (toH L H) args a:=⟨o1,fun i x y hx hy=>dz cE _ (o2 i x y hx hy)⟩
   split at h
   ·rename_i r1 hr1;split at h
    ·rename_i hsc;cases h;exact Fn.of_pure (hq _ _ _ hr1) (.inr ⟨hs,hsc⟩) hR
    ·split at h
     ·rename_i H3 cK;split at h
      ·rename_i a2 ha2;obtain ⟨q1,q2⟩:=c9 ha2;split at h
       ·rename_i r2 hr2;cases h;have hsubF:Sub (fun b=>match (dD H2 b).isSome with | true=>none | false=>dD H b) (fun b=>match (dD H2 b).isSome with | true=>none | false=>dD H b):=fun _ _ h=>h;refine Fn.of_pureZ (Hf:=fun b=>match (dD H2 b).isSome with | true=>none | false=>dD H b) (hq _ _ _ hr2) (fun b cs hb=>?_) (fun b cs hb=>⟨jx cK b cs hb,?_⟩) ⟨q1,fun i x y hx hy=>dz hsubF _ (q2 i x y hx hy)⟩ hR
        ·split at hb
         ·cases hb
         ·exact cE b cs hb
        ·split
         ·rfl
         ·rename_i hn;have:=jx cK b cs hb;unfold dD at hn ⊢;unfold toH at hb this;cases hg:H2.get b with
          | none=>rw [hg] at hb; cases hb
          | some c =>
           cases c with
           | cells cs'=>rw [hg] at hn; cases hn
           | mark e =>
            cases hg2:H.get b with
            | none=>rfl
            | some c2=>cases c2 with
             | mark e2=>rfl
             | cells cs2=>exact absurd (nf cK hg) (by rw [hg2]; intro h; cases h)
       ·cases h
      ·cases h
     ·cases h
   ·cases h
  ·cases h
theorem Dx {P:Program} {code:FuncId→Option F2} {pf:FuncId→Bool} {ct:CT} (hm:P.follows .mixedOrders=true) (hc:lj P code) (hct:CTok P ct) {rn:RN} (hr:RunOk P rn) {L:LV} {fr:List LFr} (hf:eR P L fr):CLok P L (qg code pf ct rn fr) (oz code rn) (xK rn fr) where
 cl:=fun {g args H H' nx nx' r R} h hR=>by
  unfold qg at h;split at h
  ·rename_i hx;split at h
   ·rename_i hset;cases h;rw [gA hset] at hR;exact hct.c _ _ _ _ hx _ _ hR
   ·cases h
  split at h
  ·split at h
   ·rename_i hq;cases h;exact B3 hct.q hq hR
   ·exact Ew hm hc hr h hR
  ·obtain ⟨F,h1,h2,h3⟩:=eU hc hr hf h;exact Fn.of_c2 hm h1 h2 (h3 _ hR)
 pc:=fun {g args H r} h=>DC hm hc hr h
 yl:=fun {y args H H' nx nx' r R} h hR=>by
  unfold xK at h;split at h
  ·cases h
  ·rename_i F l hF;obtain ⟨rfl,hfr⟩:=yv hf hF;obtain ⟨hy,hl⟩:=hfr;split at h
   ·rename_i hg;split at h
    ·rename_i hlen;split at h
     ·cases h
     ·rename_i T1 hT1;split at h
      ·rename_i T2 H2 nx2 hrun;split at h
       ·rename_i hg2;split at h
        ·cases h
        ·rename_i H3 hdel3;split at h
         ·cases h
         ·rename_i e T4 H4 nx4 hrun2;refine hy args (toH L H) nx R (by simp only [toH,hg,bcL]) (mL hlen) ?_;rw [← DB hT1];refine hr.ok (K:=fun e T2 H2 nx2=>aX e (H2 F.y=some (L F.y none)∧aM P F.b T2 (cK H2 F.y) nx2 fun e T3 H3 nx3=>aX e (R (.bool true) (aq H3 F.y (L F.y none)) nx3) (R (.bool false) (aq H3 F.y (L F.y (some e))) nx3)) False) hl hrun ⟨by simp only [toH,hg2,bcL],?_⟩;rw [← vh hdel3];refine hr.ok hl hrun2 ?_;cases e with
          | normal =>
           simp only at h;split at h
           ·rename_i H5 h5;cases h;rw [ou h5] at hR;exact hR
           ·cases h
          | exit i =>
           simp only at h;split at h
           ·rename_i H5 h5;cases h;rw [ou h5] at hR;exact hR
           ·cases h
          | ret =>
           simp only at h;split at h
           ·rename_i H5 h5;cases h;rw [ou h5] at hR;exact hR
           ·cases h
       ·cases h
      ·cases h
    ·cases h
   ·cases h
theorem mg {x:Option (TT × HT × Nat)} {e:AEx} {T:TT} {H:HT} {nx:Nat} (h:x9 x=some (e,T,H,nx)):x=some (T,H,nx)∧e=.normal:=by
 unfold x9 at h;split at h
 ·cases h; exact ⟨rfl,rfl⟩
 ·cases h
theorem Dv {P:Program} {code:FuncId→Option F2} {pf:FuncId→Bool} {ct:CT} (hm:P.follows .mixedOrders=true) (hc:lj P code) (hct:CTok P ct):∀ n,RunOk P (run code pf ct n)
 | 0=>⟨fun _ h=>by cases h⟩
 | n + 1=>by
  refine ⟨?_⟩;intro L fr c T T' H H' nx nx' e K hf h hK;have ih:RunOk P (run code pf ct n):=Dv hm hc hct n;have hk:=Dx (pf:=pf) (ct:=ct) hm hc hct ih hf;cases c with
  | skip=>cases h; exact hK
  | exit i=>cases h; exact hK
  | ret=>cases h; exact hK
  | ops m l =>
   obtain ⟨h1,rfl⟩:=mg h;have:=jV hk (K:=K .normal) h1 hK;refine ⟨_,_,_,_,Gh.refl _ _ _,?_⟩;unfold Jr at this;exact this
  | mix m l C =>
   simp only [run] at h;split at h
   ·obtain ⟨h1,rfl⟩:=mg h;exact .inr ⟨_,_,_,_,Gh.refl _ _ _,jV hk (K:=K .normal) h1 hK⟩
   ·rename_i hb;split at h
    ·rename_i x hx;obtain ⟨h1,rfl⟩:=mg h;cases h1;have:=jV hk (K:=K .normal) hx hK;refine .inl ⟨fun e=>?_,_,_,_,_,Gh.refl _ _ _,?_⟩
     ·subst e; cases hb
     ·unfold Bj at this; exact this
    ·obtain ⟨h1,rfl⟩:=mg h;exact .inr ⟨_,_,_,_,Gh.refl _ _ _,jV hk (K:=K .normal) h1 hK⟩
  | mixS m l C =>
   simp only [run] at h;split at h
   ·rename_i x hx;split at hx
    ·cases hx
    ·rename_i hb;obtain ⟨h1,rfl⟩:=mg h;cases h1;have:=jV hk (K:=K .normal) hx hK;refine .inl ⟨fun e=>?_,_,_,_,_,Gh.refl _ _ _,?_⟩
     ·subst e; cases hb
     ·unfold Bj at this; exact this
   ·split at h
    ·rename_i hkeep;obtain ⟨h1,rfl⟩:=mg h;exact .inr ⟨_,_,_,_,_,Gh.refl _ _ _,uV hkeep,gb hk (K:=K .normal) h1 hK⟩
    ·cases h
  | mixF l f C D =>
   simp only [run] at h;cases h
  | seq a b =>
   simp only [run] at h;split at h
   ·rename_i T1 H1 nx1 h1;exact dt (ih.ok (K:=fun e T H nx=>aX e (aM P b T H nx K) (K e T H nx)) hf h1 (ih.ok hf h hK))
   ·rename_i hne;refine dt (ih.ok (K:=fun e T H nx=>aX e (aM P b T H nx K) (K e T H nx)) hf h ?_);cases e with
    | normal=>exact absurd h (hne _ _ _)
    | exit i=>exact hK
    | ret=>exact hK
  | cond c a b =>
   simp only [run] at h;split at h
   ·rename_i hv;exact vW hv (ih.ok hf h hK)
   ·rename_i hv;exact wn hv (ih.ok hf h hK)
   ·cases h
  | block id b =>
   simp only [run] at h;split at h
   ·rename_i e1 T1 H1 nx1 h1;cases h;exact iX (ih.ok (K:=fun e T H nx=>K (lB id e) T H nx) hf h1 hK)
   ·cases h
  | loop b =>
   simp only [run] at h;split at h
   ·rename_i T1 H1 nx1 h1;obtain ⟨k,hl⟩:=ih.ok hf h hK;exact ⟨k + 1,_,_,_,_,Gh.refl _ _ _,ih.ok (K:=fun e T H nx=>aX e (pV (aM P b) K k T H nx) (K e T H nx)) hf h1 hl⟩
   ·rename_i hne;refine ⟨1,_,_,_,_,Gh.refl _ _ _,ih.ok (K:=fun e T H nx=>aX e (pV (aM P b) K 0 T H nx) (K e T H nx)) hf h ?_⟩;cases e with
    | normal=>exact absurd h (hne _ _ _)
    | exit i=>exact hK
    | ret=>exact hK
  | rangeF g ps a b =>
   simp only [run] at h;split at h
   ·rename_i f caps hg;split at h
    ·cases h
    ·rename_i hnone;split at h
     ·cases h
     ·rename_i H1 hset;split at h
      ·cases h
      ·rename_i v H2 nx2 hcall;split at h
       ·rename_i st hst;split at h
        ·cases h
        ·rename_i H3 hdel3;refine yH hg fun c0 cj hy=>?_
         let L':LV:=fun b e=>if b=nx then (match e with | none=>[c0] | some e=>[cj e]) else L b e
         have hL:∀ b e,b ≠ nx→L' b e=L b e:=fun b e hb=>if_neg hb;have hn:L' nx none=[c0]:=if_pos rfl;have hs:∀ e,L' nx (some e)=[cj e]:=fun e=>if_pos rfl
         have hf':eR P L' (⟨nx,ps,a,b,T⟩ :: fr):=by
          refine ⟨?_,sJ hL hf hnone⟩;intro args H' nx' K' h1 h2 h3;simp only [hn,hs] at h1 h3;exact hy args H' nx' K' h1 h2 h3
         have e1:aq (toH L H) nx [c0]=toH L' H1:=by
          rw [ou hset,hn]
          funext m
          simp only [aq];split
          ·rfl
          ·rename_i hm;simp only [toH];cases H.get m with
           | none=>rfl
           | some x=>cases x with
            | cells cs=>rfl
            | mark e=>simp only [bcL,hL m e hm]
         have e2:cK (toH L' H2) nx=toH L H3:=by
          rw [vh hdel3]
          funext m
          simp only [cK];split
          ·rfl
          ·rename_i hm;simp only [toH];cases H2.get m with
           | none=>rfl
           | some x=>cases x with
            | cells cs=>rfl
            | mark e=>simp only [bcL,hL m e hm]
         rw [e1];obtain ⟨F,k1,k2,k3⟩:=eU hc ih hf' hcall;refine Fn.of_c2 hm k1 k2 (k3 _ ?_);cases st with
         | none =>
          cases h;left;refine ⟨by simp only [toH,hst,bcL,hn],?_⟩;rw [e2]; exact hK
         | some e1' =>
          simp only at h;split at h
          ·cases h
          ·rename_i hnn;cases h;right;refine ⟨e,(fun hh=>by rw [hh] at hnn; cases hnn),by simp only [toH,hst,bcL,hs],?_⟩;rw [e2]; exact hK
       ·cases h
   ·cases h
def He (code:FuncId→Option F2) (pf:FuncId→Bool) (ct:CT) (n:Nat) (f:FuncId) (args:List AV) (good:AV→Bool):Bool :=
 match mW code (run code pf ct n) [] f args .leaf 0 with
 | some (v,H',_)=>match snapV (dD H') SF v with
  | some r=>good r
  | none=>false
 | none=>false
theorem Pure.of_runC {P:Program} {code:FuncId→Option F2} {pf:FuncId→Bool} {ct:CT} (hm:P.follows .mixedOrders=true) (hc:lj P code) (hct:CTok P ct) {n:Nat} {f:FuncId} {args:List AV} {good:AV→Bool} {r:AV} (h:He code pf ct n f args good=true) (hg:∀ x,good x=true→x=r):Pure P f args r:=by
 unfold He at h;split at h
 ·rename_i v H' nx' hcall;split at h
  ·rename_i r1 hr1;have:=hg _ h;subst this;obtain ⟨F,h1,h2,h3⟩:=eU hc (Dv hm hc hct n) (L:=L0) (fr:=[]) trivial hcall;exact Pure.of_c2 hm h1 h2 (h3 (fun x H _=>Snap H x r1) (dz cE _ hr1))
  ·cases h
 ·cases h
theorem Pure.of_run {P:Program} {code:FuncId→Option F2} {pf:FuncId→Bool} (hm:P.follows .mixedOrders=true) (hc:lj P code) {n:Nat} {f:FuncId} {args:List AV} {good:AV→Bool} {r:AV} (h:He code pf Ja n f args good=true) (hg:∀ x,good x=true→x=r):Pure P f args r :=
 Pure.of_runC hm hc Fu h hg
def isTrue:AV→Bool | .bool true=>true | _=>false
def lookup:List (Nat × F2)→FuncId→Option F2
 | [],_=>none
 | (k,F) :: l,f=>match Nat.beq k f with
  | true=>some F
  | false=>lookup l f
theorem BF {P:Program}:lj P (lookup []):=fun h=>by cases h
theorem a5 {P:Program} {k:Nat} {F:F2} {l:List (Nat × F2)} (h:Is P k F) (hs:lj P (lookup l)):lj P (lookup ((k,F) :: l)):=fun {f F'} hf=>by
 simp only [lookup] at hf;split at hf
 ·rename_i e;cases hf;rw [mL e] at h;exact h
 ·exact hs hf
end Go.Abs
namespace Go.Abs
open Go Go.RowKit
def tK (W:World):Nat→Prop:=fun b=>b < W.heap.size
theorem Cf {W:World} {a:Addr} {v:Value} (h:W.cell? a=some v):tK W a.block∧a.spot=none:=by
 unfold World.cell? at h;unfold tK;cases hb:W.heap[a.block]? with
 | none=>simp [hb] at h
 | some o =>
  refine ⟨(gU.1 hb).1,?_⟩;cases hs:a.spot with
  | none=>rfl
  | some s=>cases o <;> simp [hb,hs] at h
section
variable {H:Type} {enc:TypeId × Value→H} {P:Program} {W:World}
def er (enc:TypeId × Value→H) (P:Program) (W:World) (t:TypeId) {α:Type} (f:α→AV) (good:α→Prop):Prop :=
 ∀ (n:Nat) (cs:List Value) (x:DataW H × List MemPlace),DataW.trod enc P W 0 (fun _=>true) true n t cs=some x→(∀ k ∈ x.1.weights P t,k ≤ reachBytes)→∃ a:α,good a∧dy (E0 (tK W)) W (f a).cells cs
theorem er.mono {t:TypeId} {α:Type} {f:α→AV} {good good':α→Prop} (h:er enc P W t f good) (hg:∀ a,good a→good' a):er enc P W t f good' :=
 fun n cs x hx hw=>let ⟨a,h1,h2⟩:=h n cs x hx hw; ⟨a,hg a h1,h2⟩
theorem rf {E:Env} {w:World} {x:AV} {y:Value} (h:Rel E w x y):dy E w [x] [y]:=⟨rfl,fun i a b ha hb=>by
 cases i with
 | zero=>simp at ha hb; subst ha hb; exact h
 | succ i=>simp at ha⟩
theorem dy.app {E:Env} {w:World} {xs xs':List AV} {ys ys':List Value} (h:dy E w xs ys) (h':dy E w xs' ys'):dy E w (xs ++ xs') (ys ++ ys'):=by
 have hl:xs.length=ys.length:=h.1.symm;refine ⟨by simp [h.1,h'.1],fun i a b ha hb=>?_⟩;by_cases hi:i < xs.length
 ·rw [fW hi] at ha;rw [fW (by omega)] at hb;exact h.2 i a b ha hb
 ·rw [gQ (by omega)] at ha;rw [gQ (by omega)] at hb;rw [hl] at ha;exact h'.2 _ a b ha hb
theorem uQ {t:TypeId} {k:IntKind} (ht:P.underlying t=some (.int k)):er enc P W t (AV.int k) (fun n=>(Lit.int k n).wf=true):=fun n cs x hx _=>by
 obtain ⟨a,rfl,rfl,hw⟩:=DataW.trod_int ht hx;exact ⟨a,hw,rf (.int _ _)⟩
theorem sI {e:TypeId} {l:List (DataW H)} {d:DataW H} (h:d ∈ l) {k:Nat} (hk:k ∈ d.weights P e):k ∈ DataW.weightsAll P e l:=by
 induction l with
 | nil=>cases h
 | cons a l ih =>
  unfold DataW.weightsAll;rcases dw.1 h with rfl | h
  ·exact nG _ hk
  ·exact pq _ (ih h)
theorem xI {α:Type} {len:Nat} {Q:Nat→α→Prop} (h:∀ i,i < len→∃ a,Q i a):∃ l:List α,l.length=len∧∀ i a,l[i]?=some a→Q i a:=by
 induction len with
 | zero=>exact ⟨[],rfl,fun i a h=>by simp at h⟩
 | succ n ih =>
  obtain ⟨l,h1,h2⟩:=ih (fun i hi=>h i (by omega));obtain ⟨a,ha⟩:=h n (by omega);refine ⟨l ++ [a],by simp [h1],fun i b hb=>?_⟩;by_cases hi:i < l.length
  ·rw [fW hi] at hb; exact h2 i b hb
  ·rw [gQ (by omega)] at hb
   have:i - l.length=0:=by
    by_cases h0:i - l.length=0
    ·exact h0
    ·rw [List.getElem?_eq_none (by simp; omega)] at hb; cases hb
   rw [this] at hb; simp at hb; subst hb;have:i=n:=by omega
   subst this; exact ha
theorem lK {t e:TypeId} {sz by_:Nat} {α:Type} {f:α→AV} {good:α→Prop} (ht:P.underlying t=some (.slice e)) (hsz:P.cellsOf e=sz) (hby:P.bytesOf e=by_) (hpos:0 < sz) (hc:∀ a,(f a).cells.length=sz)
    (he:er enc P W e f good):er enc P W t (il sz f) (fun l=>(∀ a ∈ l,good a)∧l.length ≤ 9223372036854775807∧l.length * by_ ≤ 140737488351232):=fun n cs x hx hw=>by
 rcases Go.Deep.open_slice ht hx with ⟨rfl,rfl⟩ | ⟨a,len,cap,m,n',D,Pl,rfl,hb,hlc,hcm,hm,hxe,hel⟩
 ·exact ⟨[],⟨fun _ h=>(by cases h),by simp,by simp⟩,rf (.slnil _)⟩
 simp only [if_true] at hm;subst hxe;subst hm;have hw':∀ k ∈ ((DataW.slice (H:=H) ((List.range len).map D) ((List.range (m - len)).map fun j=>D (len + j))).weights P t),k ≤ reachBytes:=hw;simp only [DataW.weights,ht] at hw';have hlen:(((List.range len).map D).length + ((List.range (m - len)).map fun j=>D (len + j)).length) * P.bytesOf e ≤ reachBytes:=hw' _ (di ..)
 have hbd:len * by_ ≤ 140737488351232:=by
  rw [hby] at hlen;simp only [bO,List.length_range] at hlen;have h1:len * by_ ≤ (len + (m - len)) * by_:=jT _ (by omega);have h2:reachBytes=140737488351232:=rfl;omega
 have hlm:len ≤ 9223372036854775807:=fM hlc hcm
 have key:∀ i,i < len→∃ a':α,good a'∧∃ cs',W.cells? 0 (a.add (i * sz)) sz=some cs'∧dy (E0 (tK W)) W (f a').cells cs':=fun i hi=>by
  obtain ⟨cs',h1,h2⟩:=hel i (by omega);rw [hsz] at h1;obtain ⟨a',g1,g2⟩:=he n' cs' _ h2 (fun k hk=>hw' k (d6 _ (nG _ (sI (bP.2 ⟨i,ew.2 hi,rfl⟩) hk))));exact ⟨a',g1,cs',h1,g2⟩
 obtain ⟨l,hl,hq⟩:=xI key;refine ⟨l,⟨fun x hx=>?_,by omega,by rw [hl]; exact hbd⟩,rf ?_⟩
 ·obtain ⟨i,hi⟩:=tU hx;exact (hq i x hi).1
 by_cases h0:len=0
 ·subst h0;have:l=[]:=fo.1 hl;subst this;exact .slempty _ _ _
 have hcell:∀ i j,i < len→j < sz→∃ v,W.cell? ((a.add (i * sz)).add j)=some v:=fun i j hi hj=>by
  obtain ⟨a',_,cs',h1,h2⟩:=key i hi;unfold World.cells? at h1;rw [if_pos (cf _)] at h1;have h3:=mapM_some_get h1 j j (by simp [hj])
  have h4:j < cs'.length:=by
   have:=mapM_some_length h1;simp at this; omega
  exact ⟨cs'[j],by rw [h3]; simp [h4]⟩
 obtain ⟨v0,hv0⟩:=hcell 0 0 (by omega) hpos;have ho:=Cf hv0;simp only [vV,Addr.add,if_true] at ho;obtain ⟨blk,off,sp⟩:=a;obtain ⟨ho,hsp⟩:=ho;simp only at hsp ho;subst hsp
 have hadd:∀ i j,((⟨blk,off,none⟩:Addr).add (i * sz)).add j=⟨blk,off + (i * sz + j),none⟩:=fun i j=>by
  rw [ci,ci,n6]
 have hcell':∀ k,k < len * sz→∃ v,W.cell? ⟨blk,off + k,none⟩=some v:=fun k hk=>by
  have h1:k / sz < len:=Nat.div_lt_of_lt_mul (by rw [Nat.mul_comm]; exact hk);have h2:k % sz < sz:=Nat.mod_lt _ hpos;obtain ⟨v,hv⟩:=hcell (k / sz) (k % sz) h1 h2;rw [hadd,Nat.div_add_mod'] at hv;exact ⟨v,hv⟩
 have hlen2:(l.map f).length=len:=by simp [hl]
 have:=Rel.sl (E:=E0 (tK W)) (w:=W) sz (l.map f) blk off m (fun k=>(W.cell? ⟨blk,off + k,none⟩).getD Go.undef) ho (by rw [hlen2]; exact hlc)
  (fun x hx=>by obtain ⟨b,_,rfl⟩:=bP.1 hx; exact hc b)
  (fun k hk=>by
   rw [hlen2] at hk;obtain ⟨v,hv⟩:=hcell' k hk;simp only [hv,vn])
  (fun i j x y hx hy=>by
   rw [mI,Option.map_eq_some_iff] at hx;obtain ⟨a',ha',rfl⟩:=hx;obtain ⟨_,cs',h1,h2⟩:=hq i a' ha'
   have hj:j < sz:=by
    have:=(bA.1 hy).1
    rwa [hc] at this
   have hi:i < len:=by
    have:=(bA.1 ha').1;omega
   unfold World.cells? at h1;rw [if_pos (cf _)] at h1;have h3:=mapM_some_get h1 j j (by simp [hj])
   have h4:j < cs'.length:=by
    have:=mapM_some_length h1;simp at this; omega
   rw [hadd] at h3;have h5:cs'[j]?=some cs'[j]:=by simp [h4]
   rw [h5] at h3;simp only [h3,vn];exact h2.2 j y _ hy h5)
 rw [hlen2] at this;exact this
def vI (enc:TypeId × Value→H) (P:Program) (W:World) (fs:List Field) (off:Nat) {α:Type} (g:α→List AV) (good:α→Prop):Prop :=
 ∀ (n tot:Nat) (cs:List Value) (ys:List (DataW H × List MemPlace)),ys.length=fs.length→(∀ (i:Nat) (f:Field),fs[i]?=some f→DataW.trod enc P W 0 (fun _=>true) true n f.type ((cs.drop f.offset).take (P.cellsOf f.type))=ys[i]?) →
  (∀ k ∈ DataW.weightsEach P (fs.map fun f:Field=>f.type) (ys.map (·.1)),k ≤ reachBytes)→cs.length=tot→tot=off + (fs.map fun f:Field=>P.cellsOf f.type).sum→∃ a:α,good a∧dy (E0 (tK W)) W (g a) (cs.drop off)
theorem s9 {off:Nat}:vI enc P W [] off (fun _:Unit=>[]) (fun _=>True):=fun n tot cs ys _ _ _ h1 h2=>by
 refine ⟨(),trivial,?_⟩;rw [Er (by simp at h2; omega)];exact ⟨rfl,fun i a b h=>by simp at h⟩
theorem lU {fd:Field} {fs:List Field} {off off':Nat} {α β:Type} {f:α→AV} {g:β→List AV} {good:α→Prop} {good':β→Prop} (ho:fd.offset=off) (ho':off + P.cellsOf fd.type=off')
    (h:er enc P W fd.type f good) (h':vI enc P W fs off' g good'):vI enc P W (fd :: fs) off (fun a:α × β=>(f a.1).cells ++ g a.2) (fun a=>good a.1∧good' a.2):=fun n tot cs ys hl hy hw h1 h2=>by
 obtain ⟨y,ys,rfl⟩:∃ y ys',ys=y :: ys':=by
  cases ys with
  | nil=>simp at hl
  | cons y ys=>exact ⟨y,ys,rfl⟩
 have hy0:=hy 0 fd rfl;simp only [qM] at hy0;rw [ho] at hy0;simp only [dR,DataW.weightsEach] at hw;obtain ⟨a,g1,g2⟩:=h n _ y hy0 (fun k hk=>hw k (nG _ hk));simp only [dR,List.sum_cons] at h2
 obtain ⟨b,g3,g4⟩:=h' n tot cs ys (by simpa using hl) (fun i f hf=>by
  have:=hy (i + 1) f (by simpa using hf);simpa using this) (fun k hk=>hw k (pq _ hk)) h1 (by omega)
 refine ⟨(a,b),⟨g1,g3⟩,?_⟩
 have e:cs.drop off=(cs.drop off).take (P.cellsOf fd.type) ++ cs.drop off':=by
  rw [← ho',← List.drop_drop,De]
 rw [e];exact dy.app g2 g4
theorem nR {t:TypeId} {fs:Array Field} {α:Type} {g:α→List AV} {good:α→Prop} (ht:P.underlying t=some (.struct fs)) (hsum:P.cellsOf t=(fs.toList.map fun f:Field=>P.cellsOf f.type).sum)
    (h:vI enc P W fs.toList 0 g good):er enc P W t (fun a=>.agg (g a)) good:=fun n cs x hx hw=>by
 obtain ⟨ys,n',rfl,rfl,hl,hs,hy⟩:=DataW.trod_struct ht hx
 obtain ⟨a,g1,g2⟩:=h n' _ cs ys (by rw [hs]; simp) (fun i f hf=>hy i f (by simpa using hf)) (fun k hk=>hw k (by
  simp only [DataW.weights,ht]; exact hk)) hl (by rw [cb,hsum])
 exact ⟨a,g1,by rw [List.drop_zero] at g2; exact g2⟩
theorem er.map {t:TypeId} {α β:Type} {f:α→AV} {good:α→Prop} {f':β→AV} {good':β→Prop} (h:er enc P W t f good) (φ:α→β) (hg:∀ a,good a→good' (φ a)) (hf:∀ a,good a→(f' (φ a)).cells=(f a).cells):er enc P W t f' good':=fun n cs x hx hw=>by
 obtain ⟨a,h1,h2⟩:=h n cs x hx hw;exact ⟨φ a,hg a h1,by rw [hf a h1]; exact h2⟩
theorem er.at {t u:TypeId} {α:Type} {f:α→AV} {good:α→Prop} (e:t=u) (h:er enc P W u f good):er enc P W t f good:=e ▸ h
theorem er.argA {t:TypeId} {α:Type} {f:α→AV} {good:α→Prop} (h:er enc P W t f good) {r:Reach} {base:Nat} {v:Value} {d:DataW H} {ps:List MemPlace} (ht:oM P t=true) (hf:∀ a,∃ cs,f a=.agg cs)
    (hval:Value.okWide P W r base t v) (hd:DataW.Trod enc P W 0 (fun _=>true) true t v d ps) (hw:∀ k ∈ d.weights P t,k ≤ reachBytes):∃ a,good a∧Rel (E0 (tK W)) W (f a) v:=by
 obtain ⟨n,hn⟩:=hd;obtain ⟨a,h1,h2⟩:=h n _ _ hn hw;refine ⟨a,h1,?_⟩
 obtain ⟨cs,hcs,_⟩:∃ cs,v=.agg cs∧True:=by
  unfold Value.okWide at hval;unfold oM at ht;split at hval
  ·obtain ⟨cs,h,_⟩:=hval; exact ⟨cs,h,trivial⟩
  ·obtain ⟨cs,h,_⟩:=hval; exact ⟨cs,h,trivial⟩
  ·rename_i k1 k2;revert ht;cases hu:P.underlying t with
   | none=>simp
   | some u =>
    cases u with
    | struct fs=>exact absurd hu (k1 fs)
    | array m e=>exact absurd hu (k2 m e)
    | _=>simp
 subst hcs;obtain ⟨xs,hx⟩:=hf a;rw [hx] at h2 ⊢;exact .agg xs cs.toList h2.1 h2.2
theorem er.arg1 {t:TypeId} {α:Type} {f:α→AV} {good:α→Prop} (h:er enc P W t f good) {v:Value} {d:DataW H} {ps:List MemPlace} (hf:∀ a,(f a).cells=[f a]) (hv:v.cells=#[v])
    (hd:DataW.Trod enc P W 0 (fun _=>true) true t v d ps) (hw:∀ k ∈ d.weights P t,k ≤ reachBytes):∃ a,good a∧Rel (E0 (tK W)) W (f a) v:=by
 obtain ⟨n,hn⟩:=hd;obtain ⟨a,h1,h2⟩:=h n _ _ hn hw;rw [hf,hv] at h2;exact ⟨a,h1,h2.2 0 _ _ rfl rfl⟩
theorem uw {t:TypeId} {r:Reach} {base:Nat} {v:Value} (ht:oM P t=false) (hval:Value.okWide P W r base t v):v.cells=#[v]:=by
 cases v <;> try rfl
 rename_i cs;exfalso;unfold Value.okWide at hval;unfold oM at ht;cases hu:P.underlying t with
 | none=>simp only [hu,Cell.okWide,Cell.ok] at hval
 | some u =>
  rw [hu] at ht;cases u <;> simp only [hu,Cell.okWide,Cell.ok] at hval <;> simp at ht
theorem mY (hl:laidOutB P=true) {W':World} (hb:Below W.heap.size W W') {sp:Nat→Bool}:∀ {ts:List TypeId} {vs:List Value} {ds:List (DataW H)} {ps:List MemPlace},(∀ t ∈ ts,P.readableRec t=true∧t < P.types.size) →
    DataW.TrodAll enc P W 0 (fun _=>true) true ts vs ds ps→(∀ p ∈ ps,p.block < W.heap.size)→(∀ p ∈ ps,sp p.block=true)→DataW.TrodAll enc P W' 0 sp true ts vs ds ps
 | [],[],[],ps,_,h,_,_=>h
 | t :: ts,v :: vs,d :: ds,ps,hr,⟨p,q,h1,h2,e⟩,hlt,hsp=>by
  subst e
  exact ⟨p,q,WideElems.Trod_stays hl (hr t (di ..)).1 (hr t (di ..)).2 h1 (fun x hx=>hb.same (hlt x (nG _ hx))) (fun x hx=>hsp x (nG _ hx)),
   mY hl hb (fun t ht=>hr t (d6 _ ht)) h2 (fun x hx=>hlt x (pq _ hx)) (fun x hx=>hsp x (pq _ hx)),rfl⟩
 | [],_ :: _,_,_,_,h,_,_=>h.elim
 | [],[],_ :: _,_,_,h,_,_=>h.elim
 | _ :: _,[],_,_,_,h,_,_=>h.elim
 | _ :: _,_ :: _,[],_,_,h,_,_=>h.elim
theorem lZ:∀ {ts:List TypeId} {ds:List (DataW H)} {i:Nat} {t:TypeId} {d:DataW H},ts[i]?=some t→ds[i]?=some d→∀ k ∈ d.weights P t,k ∈ DataW.weightsEach P ts ds
 | t :: ts,d :: ds,0,_,_,h1,h2,k,hk=>by
  simp at h1 h2; subst h1 h2;unfold DataW.weightsEach;exact nG _ hk
 | t :: ts,d :: ds,i + 1,_,_,h1,h2,k,hk=>by
  unfold DataW.weightsEach;exact pq _ (lZ (ts:=ts) (ds:=ds) (by simpa using h1) (by simpa using h2) k hk)
 | [],_,i,_,_,h1,_,_,_=>by simp at h1
 | _ :: _,[],i,_,_,_,h2,_,_=>by simp at h2
end
end Go.Abs
namespace Go.Proofs.YtlodfaaceehfmaaGreat
open Go Go.Abs Go.Abs.C2 Go.Abs.Ins Go.Abs.Opd Go.Abs.TK Go.Abs.MK
def cO (d:Nat) (i:Ins):Op2:=Op2.mk (some d) none i
def cG (d g:Nat) (b:Bool) (i:Ins):Op2:=Op2.mk (some d) (some (g,b)) i
def cN (k:Int):Opd:=Opd.c (AV.int IntKind.i64 k)
def cM (n:Nat):Ins:=Ins.mov (Opd.t n)
def cD (n:Nat):Ins:=Ins.ld1 (Opd.t n)
def cF (n:Nat):Opd:=Opd.c (AV.func n [])
def cB (o:BinOp) (x y:Opd):Ins:=Ins.bin o false false x y
def bk:Opd:=Opd.c (AV.bool false)
def ff:Opd:=Opd.c (AV.bool true)
def aa (d s:Nat):Op2:=Op2.mk (some d) none (Ins.mov (Opd.t s))
def aK (d s:Nat):Op2:=Op2.mk (some d) none (Ins.ld1 (Opd.t s))
def bJ (d n s:Nat):Op2:=Op2.mk (some d) none (Ins.ldn n (Opd.t s))
def bi (d s:Nat):Op2:=Op2.mk (some d) none (Ins.lenS (Opd.t s))
def cH (d n s:Nat):Op2:=Op2.mk (some d) none (Ins.fa n (Opd.t s))
def a8 (d s n:Nat):Op2:=Op2.mk (some d) none (Ins.ext (Opd.t s) n)
def aN (d f:Nat) (l:List Opd):Op2:=Op2.mk (some d) none (Ins.call (Opd.c (AV.func f [])) l)
def aR (d:Nat) (o:BinOp) (x y:Nat):Op2:=Op2.mk (some d) none (Ins.bin o false false (Opd.t x) (Opd.t y))
def ay (d:Nat) (o:BinOp) (x:Nat) (y:Int):Op2:=Op2.mk (some d) none (Ins.bin o false false (Opd.t x) (Opd.c (AV.int IntKind.i64 y)))
def bU (n p v:Nat):Op2:=Op2.mk none none (Ins.st n (Opd.t p) (Opd.t v))
def cR (d g:Nat) (i:Ins):Op2:=Op2.mk (some d) (some (g,false)) i
def ap (d g:Nat) (i:Ins):Op2:=Op2.mk (some d) (some (g,true)) i
def aA (n:Nat) (x y:C2):C2:=C2.cond (Opd.t n) x y
def ab (l:List Op2) (x:C2):C2:=C2.seq (C2.ops 0 l) x
def aY:AV:=AV.int IntKind.i64 0
theorem aU:(∀ (d:Nat) (i:Ins),cO d i=Op2.mk (some d) none i)∧(∀ (d g:Nat) (b:Bool) (i:Ins),cG d g b i=Op2.mk (some d) (some (g,b)) i)∧(∀ (k:Int),cN k=Opd.c (AV.int IntKind.i64 k))∧(∀ (n:Nat),cM n=Ins.mov (Opd.t n))∧(∀ (n:Nat),cD n=Ins.ld1 (Opd.t n))∧(∀ (n:Nat),cF n=Opd.c (AV.func n []))∧(∀ (o:BinOp) (x y:Opd),cB o x y=Ins.bin o false false x y)∧(bk=Opd.c (AV.bool false))∧(ff=Opd.c (AV.bool true))∧(∀ (d s:Nat),aa d s=Op2.mk (some d) none (Ins.mov (Opd.t s)))∧(∀ (d s:Nat),aK d s=Op2.mk (some d) none (Ins.ld1 (Opd.t s)))∧(∀ (d n s:Nat),bJ d n s=Op2.mk (some d) none (Ins.ldn n (Opd.t s)))∧(∀ (d s:Nat),bi d s=Op2.mk (some d) none (Ins.lenS (Opd.t s)))∧(∀ (d n s:Nat),cH d n s=Op2.mk (some d) none (Ins.fa n (Opd.t s)))∧(∀ (d s n:Nat),a8 d s n=Op2.mk (some d) none (Ins.ext (Opd.t s) n))∧(∀ (d f:Nat) (l:List Opd),aN d f l=Op2.mk (some d) none (Ins.call (Opd.c (AV.func f [])) l))∧(∀ (d:Nat) (o:BinOp) (x y:Nat),aR d o x y=Op2.mk (some d) none (Ins.bin o false false (Opd.t x) (Opd.t y)))∧(∀ (d:Nat) (o:BinOp) (x:Nat) (y:Int),ay d o x y=Op2.mk (some d) none (Ins.bin o false false (Opd.t x) (Opd.c (AV.int IntKind.i64 y))))∧(∀ (n p v:Nat),bU n p v=Op2.mk none none (Ins.st n (Opd.t p) (Opd.t v)))∧(∀ (d g:Nat) (i:Ins),cR d g i=Op2.mk (some d) (some (g,false)) i)∧(∀ (d g:Nat) (i:Ins),ap d g i=Op2.mk (some d) (some (g,true)) i)∧(∀ (n:Nat) (x y:C2),aA n x y=C2.cond (Opd.t n) x y)∧(∀ (l:List Op2) (x:C2),ab l x=C2.seq (C2.ops 0 l) x)∧(aY=AV.int IntKind.i64 0):=⟨fun _ _=>rfl,fun _ _ _ _=>rfl,fun _=>rfl,fun _=>rfl,fun _=>rfl,fun _=>rfl,fun _ _ _=>rfl,rfl,rfl,fun _ _=>rfl,fun _ _=>rfl,fun _ _ _=>rfl,fun _ _=>rfl,fun _ _ _=>rfl,fun _ _ _=>rfl,fun _ _ _=>rfl,fun _ _ _ _=>rfl,fun _ _ _ _=>rfl,fun _ _ _=>rfl,fun _ _ _=>rfl,fun _ _ _=>rfl,fun _ _ _=>rfl,fun _ _=>rfl,rfl⟩
theorem mkI {P:Program} {f:FuncId} {F:F2} {fn:Func} (h1:P.funcs[f]?=some fn) (h2:wE P fn=some F:=by kernel_rfl):Is P f F:=Is.mk' h1 h2
theorem follows:Tryz.prog.follows .mixedOrders=true:=by rfl
def b3:F2:=(F2.mk 205 [RV.t 6] (ab [cO 3 (box (t 0)),cO 6 (mov bk)] ((ab [aN 36 4 [],cO 37 (un UnOp.not (t 36))] (aA 37 (ab [cO 6 (mov bk)] ret) skip)).seq (ab [aa 38 1,cO 39 (cB .rem (t 38) (c (AV.int IntKind.u8 (3)))),cO 40 (conv IntKind.i64 (t 39)),aa 7 40] ((ab [bJ 41 1 3,aN 42 5 [t 41],cO 43 (un UnOp.not (t 42)),aa 44 43,cR 45 44 (cM 2),cR 46 44 (lenS (t 45)),cR 47 44 (cB .gtr (t 46) (cN 40)),cO 48 (pick (t 44) ff (t 47))] (aA 48 (ab [cO 6 (mov ff)] ret) skip)).seq (ab [bJ 50 1 3,aN 51 6 [t 50],aa 49 51,a8 52 49 0,a8 53 49 1,aa 8 52,aa 9 53] (ab [bJ 55 1 3,aN 56 7 [t 55],aa 54 56,a8 57 54 0,a8 58 54 1,aa 10 57,aa 11 58] (ab [bJ 60 1 3,aN 61 8 [t 60],aa 59 61,a8 62 59 0,a8 63 59 1,a8 64 59 2,aa 12 62,aa 13 63,aa 14 64] ((ab [aa 65 9,aa 66 11,aR 67 .add 65 66,aa 68 14,aR 69 .add 67 68,ay 70 .neq 69 0,aa 71 70,cR 72 71 (cM 8),cR 73 71 (lenS (t 72)),cR 74 71 (cM 12),cR 75 71 (cB .add (t 74) (cN 1)),cR 76 71 (cB .neq (t 73) (t 75)),cO 77 (pick (t 71) ff (t 76))] (aA 77 (ab [cO 6 (mov bk)] ret) skip)).seq (ab [cO 15 (mov (cN 0)),cO 16 (mov (cN 0))] ((ab [aa 78 8,bi 79 78,cO 80 (mov (cN 0))] (block 0 (ab [aR 81 .lss 80 79] ((aA 81 skip (exit 0)).seq ((block 1 (ab [aa 82 80,aa 17 82] (ab [bJ 84 1 3,aa 85 17,aN 86 9 [t 84,t 85],aa 83 86,a8 87 83 0,a8 88 83 1,cO 18 (alloc (AV.agg [aY,AV.esl])),bU 2 18 87,aa 19 88] (ab [cO 89 (bld [aY,AV.esl] []),cO 20 (alloc (AV.agg [aY,AV.esl])),bU 2 20 89,cO 21 (mov (cN 0))] ((ab [aa 90 17,ay 91 .add 90 1,ay 92 .lss 91 8] (aA 92 (ops 0 [bJ 94 1 3,aa 95 17,ay 96 .add 95 1,aN 97 9 [t 94,t 96],aa 93 97,a8 98 93 0,a8 99 93 1,bU 2 20 98,aa 21 99]) skip)).seq (ab [bJ 101 2 18,aN 102 10 [t 101],aa 100 102,a8 103 100 0,a8 104 100 1,aa 22 103,aa 23 104] (ab [bJ 106 2 20,aN 107 10 [t 106],aa 105 107,a8 108 105 0,a8 109 105 1,aa 24 108,aa 25 109] (((ops 1 [aa 110 19,aa 111 21,aR 112 .add 110 111,aa 113 23,aR 114 .add 112 113,aa 115 25,aR 116 .add 114 115,ay 117 .neq 116 0,aa 118 117,cR 119 118 (cM 22),cR 120 118 (cM 16),cR 121 118 (cB .neq (t 119) (t 120)),cO 122 (pick (t 118) ff (t 121)),aa 123 122,cR 124 123 (cM 8),cR 125 123 (cM 17),cR 126 123 (ixaS 1 (t 124) (t 125)),cR 127 123 (cD 126),cR 128 123 (fa 0 (t 18)),cR 129 123 (cD 128),cR 130 123 (cM 22),cR 131 123 (cB .sub (t 129) (t 130)),cR 132 123 (cM 24),cR 133 123 (cB .sub (t 131) (t 132)),cR 134 123 (cB .neq (t 127) (t 133)),cO 135 (pick (t 123) ff (t 134))]).seq (aA 135 (ab [cO 6 (mov bk)] ret) skip)).seq (ab [aa 136 24,aa 16 136] (ab [aa 137 17,ay 138 .rem 137 2,ay 139 .eql 138 0] (aA 139 (ops 0 [aa 140 15,aa 141 8,aa 142 17,cO 143 (ixaS 1 (t 141) (t 142)),aK 144 143,aR 145 .add 140 144,aa 15 145]) (ops 0 [aa 146 15,aa 147 8,aa 148 17,cO 149 (ixaS 1 (t 147) (t 148)),aK 150 149,aR 151 .sub 146 150,aa 15 151])))))))))))).seq (ops 0 [ay 152 .add 80 1,aa 80 152])))).loop)).seq ((ab [aa 153 15,aa 154 10,aR 155 .neq 153 154] (aA 155 (ab [cO 6 (mov bk)] ret) skip)).seq (ab [bJ 157 1 3,aa 158 7,ay 159 .add 158 1,aa 160 2,aN 161 11 [t 157,t 159,t 160],aa 156 161,a8 162 156 0,a8 163 156 1,aa 26 162,aa 27 163] ((ab [aa 164 27,ay 165 .neq 164 0] (aA 165 (ab [cO 6 (mov ff)] ret) skip)).seq (ab [aa 167 26,aN 168 12 [t 167],aa 166 168,a8 169 166 0,a8 170 166 1,aa 28 169,aa 29 170] (ab [aa 172 28,aN 173 12 [t 172],aa 171 173,a8 174 171 0,a8 175 171 1,aa 30 174,aa 31 175] (ab [bJ 177 1 3,aa 178 28,aN 179 13 [t 177,t 178],aa 176 179,a8 180 176 0,a8 181 176 1,a8 182 176 2,a8 183 176 3,aa 32 180,aa 33 181,aa 34 182,aa 35 183] (ab [aa 184 29,aa 185 31,aR 186 .add 184 185,aa 187 35,aR 188 .add 186 187,ay 189 .eql 188 0,aa 190 189,ap 191 190 (cM 30),ap 192 190 (lenS (t 191)),ap 193 190 (cB .eql (t 192) (cN 0)),cO 194 (pick (t 190) (t 193) bk),aa 195 194,ap 196 195 (cM 34),cO 197 (pick (t 195) (t 196) bk),aa 198 197,ap 199 198 (ldn 1 (t 3)),ap 200 198 (cM 28),ap 201 198 (cM 32),ap 202 198 (call (cF 14) [t 199,t 200,t 201]),ap 203 198 (cB .eql (t 202) (cN 0)),cO 204 (pick (t 198) (t 203) bk),aa 6 204] ret))))))))))))))))))
theorem is3:Is Tryz.prog 3 b3:=mkI Tryz.func3
def b4:F2:=(F2.mk 50 [RV.t 0] (ab [cO 0 (mov bk)] (ab [cO 7 (bld [aY,aY] [(0,1,cN ((0)))]),cO 8 (bld [aY,aY] [(0,1,cN ((1)))]),cO 9 (bld [aY,aY] [(0,1,cN ((2)))]),cO 10 (bldS 2 3 [aY,aY] [(0,2,t 7),(2,2,t 8),(4,2,t 9)]),aa 1 10] ((ops 1 [aa 11 1,cO 12 (sls 2 (t 11) none (some (cN 2)) none),aa 13 1,cO 14 (ixaS 2 (t 13) (cN 0)),bJ 15 2 14,aa 16 1,cO 17 (ixaS 2 (t 16) (cN 2)),bJ 18 2 17,cO 19 (bldS 2 2 [aY,aY] [(0,2,t 15),(2,2,t 18)]),aa 20 1,cO 21 (sls 2 (t 20) (some (cN 1)) none none),cO 22 (bldS 1 3 [AV.esl] [(0,1,t 12),(1,1,t 19),(2,1,t 21)]),cO 23 (bld [AV.esl] [(0,1,t 22)]),cO 2 (alloc (AV.agg [AV.esl])),bU 1 2 23]).seq (ab [bJ 25 1 2,aN 26 6 [t 25],aa 24 26,a8 27 24 0,a8 28 24 1,aa 3 27,aa 4 28] (ab [bJ 30 1 2,aN 31 15 [t 30],aa 29 31,a8 32 29 0,a8 33 29 1,aa 5 32,aa 6 33] (ab [aa 34 4,ay 35 .eql 34 0,aa 36 35,ap 37 36 (cM 6),ap 38 36 (cB .eql (t 37) (cN 0)),cO 39 (pick (t 36) (t 38) bk),aa 40 39,ap 41 40 (cM 3),ap 42 40 (bldS 1 2 [aY] [(0,1,cN ((1))),(1,1,cN ((1)))]),ap 43 40 (call (cF 16) [t 41,t 42]),cO 44 (pick (t 40) (t 43) bk),aa 45 44,ap 46 45 (cM 5),ap 47 45 (lenS (t 46)),ap 48 45 (cB .eql (t 47) (cN 0)),cO 49 (pick (t 45) (t 48) bk),aa 0 49] ret)))))))
theorem is4:Is Tryz.prog 4 b4:=mkI Tryz.func4
def b5:F2:=(F2.mk 31 [RV.t 2] (ab [cO 1 (box (t 0)),cO 2 (mov bk)] (ab [cO 3 (mov (cN 0))] ((ab [cH 6 0 1,aK 7 6,bi 8 7,cO 9 (mov (cN 0))] (block 0 (ab [aR 10 .lss 9 8] ((aA 10 skip (exit 0)).seq ((block 1 (ab [cO 11 (ixaS 1 (t 7) (t 9)),aK 12 11,aa 5 12] (ops 0 [aa 13 3,aa 14 5,bi 15 14,cO 16 (mn (t 15) [cN ((10))]),cO 17 (cB .shl (cN 1) (t 16)),aR 18 .add 13 17,aa 3 18]))).seq (ops 0 [ay 19 .add 9 1,aa 9 19])))).loop)).seq (ab [bJ 20 1 1,aN 21 17 [t 20],aa 22 21,ap 23 22 (cM 3),ap 24 22 (cB .leq (t 23) (cN 300)),cO 25 (pick (t 22) (t 24) bk),aa 26 25,ap 27 26 (ldn 1 (t 1)),ap 28 26 (call (cF 18) [t 27]),ap 29 26 (cB .eql (t 28) (cN 0)),cO 30 (pick (t 26) (t 29) bk),aa 2 30] ret)))))
theorem is5:Is Tryz.prog 5 b5:=mkI Tryz.func5
def b6:F2:=(F2.mk 14 [RV.t 2,RV.t 3] (ab [cO 1 (box (t 0)),cO 2 (mov (c AV.esl)),cO 3 (mov (cN 0))] ((ab [bJ 5 1 1,aN 6 19 [t 5],aa 4 6] (ab [aa 7 4,ay 8 .neq 7 0] (aA 8 (ab [aa 9 4,cO 2 (mov (c AV.esl)),aa 3 9] ret) skip))).seq (ab [bJ 10 1 1,aN 11 20 [t 10],a8 12 11 0,a8 13 11 1,aa 2 12,aa 3 13] ret))))
theorem is6:Is Tryz.prog 6 b6:=mkI Tryz.func6
def b7:F2:=(F2.mk 40 [RV.t 2,RV.t 3] (ab [cO 1 (box (t 0)),cO 2 (mov (cN 0)),cO 3 (mov (cN 0))] ((ab [bJ 9 1 1,aN 10 21 [t 9],aa 4 10] (ab [aa 11 4,ay 12 .neq 11 0] (aA 12 (ab [aa 13 4,cO 2 (mov (cN 0)),aa 3 13] ret) skip))).seq (ab [cO 5 (mov (cN 0))] ((ab [cO 6 (mov (cN 1))] (block 0 ((ab [aa 14 6,ay 15 .leq 14 8] (aA 15 skip (exit 0))).seq ((block 1 (ab [cH 19 0 1,aK 20 19,aa 21 6,aN 22 22 [t 20,t 21],aa 18 22,a8 23 18 0,a8 24 18 1,aa 7 23,aa 8 24] ((ab [aa 25 8,ay 26 .neq 25 0] (aA 26 (ab [aa 27 8,cO 2 (mov (cN 0)),aa 3 27] ret) skip)).seq (ab [aa 28 6,ay 29 .rem 28 2,ay 30 .eql 29 1] (aA 30 (ops 0 [aa 31 5,aa 32 7,bi 33 32,aR 34 .add 31 33,aa 5 34]) (ops 0 [aa 35 5,aa 36 7,bi 37 36,aR 38 .sub 35 37,aa 5 38])))))).seq (ops 0 [aa 16 6,ay 17 .add 16 1,aa 6 17]))).loop)).seq (ab [aa 39 5,aa 2 39,cO 3 (mov (cN 0))] ret))))))
theorem is7:Is Tryz.prog 7 b7:=mkI Tryz.func7
def b8:F2:=(F2.mk 20 [RV.t 2,RV.t 3,RV.t 4] (ab [cO 1 (box (t 0)),cO 2 (mov (cN 0)),cO 3 (mov bk),cO 4 (mov (cN 0))] ((ab [bJ 8 1 1,aN 9 21 [t 8],aa 5 9] (ab [aa 10 5,ay 11 .neq 10 0] (aA 11 (ab [aa 12 5,cO 2 (mov (cN 0)),cO 3 (mov bk),aa 4 12] ret) skip))).seq (ab [bJ 14 1 1,aN 15 23 [t 14],aa 13 15,a8 16 13 0,a8 17 13 1,aa 6 16,aa 7 17] (ab [aa 18 6,aa 19 7,aa 2 18,aa 3 19,cO 4 (mov (cN 0))] ret)))))
theorem is8:Is Tryz.prog 8 b8:=mkI Tryz.func8
def b9:F2:=(F2.mk 87 [RV.cn 4 2,RV.t 5] (ab [cO 2 (box (t 0)),cO 4 (alloc (AV.agg [aY,AV.esl])),cO 5 (mov (cN 0))] ((ab [bJ 16 1 2,aN 17 21 [t 16],aa 6 17] (ab [aa 18 6,ay 19 .neq 18 0] (aA 19 (ab [cO 20 (bld [aY,AV.esl] []),aa 21 6,bU 2 4 20,aa 5 21] ret) skip))).seq ((ab [aa 22 1,ay 23 .lss 22 0,aa 24 23,cR 25 24 (cM 1),cR 26 24 (cB .geq (t 25) (cN 8)),cO 27 (pick (t 24) ff (t 26))] (aA 27 (ab [cO 28 (bld [aY,AV.esl] []),bU 2 4 28,cO 5 (mov (cN 2))] ret) skip)).seq (ab [bJ 30 1 2,aa 31 1,aN 32 24 [t 30,t 31],aa 29 32,a8 33 29 0,a8 34 29 1,aa 7 33,aa 8 34] ((ab [aa 35 8,ay 36 .neq 35 0] (aA 36 (ab [cO 37 (bld [aY,AV.esl] []),aa 38 8,bU 2 4 37,aa 5 38] ret) skip)).seq (ab [bJ 40 1 2,aa 41 1,ay 42 .sub 41 1,aN 43 24 [t 40,t 42],aa 39 43,a8 44 39 0,a8 45 39 1,cO 9 (alloc AV.esl),bU 1 9 44,aa 8 45] ((ab [aa 46 8,ay 47 .neq 46 0] (aA 47 (ab [cO 48 (bld [aY,AV.esl] []),aa 49 8,bU 2 4 48,aa 5 49] ret) skip)).seq (ab [aa 50 7,bi 51 50,aK 52 9,bi 53 52,cO 54 (mks 1 24 [AV.esl] (t 53) (t 53)),cO 55 (bld [aY,AV.esl] [(0,1,t 51),(1,1,t 54)]),cO 10 (alloc (AV.agg [aY,AV.esl])),bU 2 10 55] ((ab [aa 56 7,bi 57 56,cO 58 (mov (cN 0))] (block 0 (ab [aR 59 .lss 58 57] ((aA 59 skip (exit 0)).seq ((block 1 (ab [aa 60 58,cO 61 (ixaS 1 (t 56) (t 58)),aK 62 61,cO 11 (alloc (aY)),bU 1 11 60,aa 12 62] (ab [aa 63 12,aN 64 25 [t 63]] (block 2 (rangeF (t 64) [65] (ops 0 [aa 13 65]) (block 3 (ab [aK 67 9,aa 68 13,aN 69 26 [t 67,t 68],aa 66 69,a8 70 66 0,a8 71 66 1,aa 14 70,aa 15 71] (ab [aa 72 15] (aA 72 (mixS 2 [cH 73 1 10,aK 74 73,aa 75 14,cH 76 1 10,aK 77 76,aa 78 14,cO 79 (ixaS 1 (t 77) (t 78)),aK 80 79,aK 81 11,cO 82 (bldS 1 1 [aY] [(0,1,t 81)]),cO 83 (app 1 8 (t 80) (t 82)),cO 84 (ixaS 1 (t 74) (t 75)),bU 1 84 83] [(0,0),(1,0),(2,0),(3,0),(4,0),(5,0),(6,0),(7,0),(8,0),(9,1),(10,1),(11,0),(12,2)]) skip))))))))).seq (ops 0 [ay 85 .add 58 1,aa 58 85])))).loop)).seq (ab [bJ 86 2 10,bU 2 4 86,cO 5 (mov (cN 0))] ret)))))))))))
theorem is9:Is Tryz.prog 9 b9:=mkI Tryz.func9
def b10:F2:=(F2.mk 15 [RV.t 2,RV.t 3] (ab [cO 1 (box (t 0)),cO 2 (mov (cN 0)),cO 3 (mov (cN 0))] (ab [bJ 7 2 1,aN 8 27 [t 7],aa 6 8,a8 9 6 0,a8 10 6 1,cO 4 (alloc (AV.agg [aY,AV.esl])),bU 2 4 9,aa 5 10] (ab [cH 11 1 4,aK 12 11,bi 13 12,aa 14 5,aa 2 13,aa 3 14] ret))))
theorem Kf:Is Tryz.prog 10 b10:=mkI Tryz.func10
def b11:F2:=(F2.mk 72 [RV.t 6,RV.t 7] (ab [cO 3 (box (t 0)),cO 6 (mov (c AV.esl)),cO 7 (mov (cN 0))] ((ab [bJ 14 1 3,aN 15 21 [t 14],aa 8 15] (ab [aa 16 8,ay 17 .neq 16 0] (aA 17 (ab [aa 18 8,cO 6 (mov (c AV.esl)),aa 7 18] ret) skip))).seq ((ab [aa 19 1,ay 20 .lss 19 0,aa 21 20,cR 22 21 (cM 1),cR 23 21 (cB .geq (t 22) (cN 8)),cO 24 (pick (t 21) ff (t 23))] (aA 24 (ab [cO 6 (mov (c AV.esl)),cO 7 (mov (cN 2))] ret) skip)).seq (ab [bJ 26 1 3,aa 27 1,aN 28 24 [t 26,t 27],aa 25 28,a8 29 25 0,a8 30 25 1,aa 9 29,aa 10 30] ((ab [aa 31 10,ay 32 .neq 31 0] (aA 32 (ab [aa 33 10,cO 6 (mov (c AV.esl)),aa 7 33] ret) skip)).seq (ab [cO 11 (mov (c AV.esl))] ((ab [aa 34 2,bi 35 34,cO 36 (mov (cN 0))] (block 0 (ab [aR 37 .lss 36 35] ((aA 37 skip (exit 0)).seq ((block 1 (ab [aa 38 36,cO 39 (ixaS 1 (t 34) (t 36)),aK 40 39,aa 12 38,aa 13 40] ((block 2 (ab [aa 42 13,ay 43 .lss 42 0,aa 44 43,cR 45 44 (cM 13),cR 46 44 (cM 9),cR 47 44 (lenS (t 46)),cR 48 44 (cB .geq (t 45) (t 47)),cO 49 (pick (t 44) ff (t 48)),aa 41 49] (aA 41 (ab [cO 6 (mov (c AV.esl)),cO 7 (mov (cN 2))] ret) (ab [aa 51 12,ay 52 .gtr 51 0,aa 53 52,ap 54 53 (cM 13),ap 55 53 (cM 2),ap 56 53 (cM 12),ap 57 53 (cB .sub (t 56) (cN 1)),ap 58 53 (ixaS 1 (t 55) (t 57)),ap 59 53 (cD 58),ap 60 53 (cB .leq (t 54) (t 59)),cO 61 (pick (t 53) (t 60) bk),aa 50 61] (aA 50 (ab [cO 6 (mov (c AV.esl)),cO 7 (mov (cN 14))] ret) skip))))).seq (ops 0 [aa 62 11,aa 63 9,aa 64 13,cO 65 (ixaS 1 (t 63) (t 64)),aK 66 65,cO 67 (bldS 1 1 [AV.esl] [(0,1,t 66)]),cO 68 (app 1 24 (t 62) (t 67)),aa 11 68])))).seq (ops 0 [ay 69 .add 36 1,aa 36 69])))).loop)).seq (ab [aa 70 11,aN 71 28 [t 70],aa 6 71,cO 7 (mov (cN 0))] ret)))))))))
theorem J2:Is Tryz.prog 11 b11:=mkI Tryz.func11
def b12:F2:=(F2.mk 15 [RV.t 2,RV.t 3] (ab [cO 2 (mov (c AV.esl)),cO 3 (mov (cN 0))] ((ab [aa 5 0,aN 6 29 [t 5],aa 4 6] (ab [aa 7 4,ay 8 .neq 7 0] (aA 8 (ab [aa 9 4,cO 2 (mov (c AV.esl)),aa 3 9] ret) skip))).seq (ab [aa 10 0,aN 11 31 [t 10],aN 12 30 [t 11],a8 13 12 0,a8 14 12 1,aa 2 13,aa 3 14] ret))))
theorem Ko:Is Tryz.prog 12 b12:=mkI Tryz.func12
def b13:F2:=(F2.mk 84 [RV.t 4,RV.t 5,RV.t 6,RV.t 7] (ab [cO 2 (box (t 0)),cO 4 (mov (c AV.esl)),cO 5 (mov (c AV.esl)),cO 6 (mov bk),cO 7 (mov (cN 0))] ((ab [bJ 19 1 2,aN 20 19 [t 19],aa 8 20] (ab [aa 21 8,ay 22 .neq 21 0] (aA 22 (ab [aa 23 8,cO 4 (mov (c AV.esl)),cO 5 (mov (c AV.esl)),cO 6 (mov bk),aa 7 23] ret) skip))).seq (ab [bJ 25 1 2,aa 26 1,aN 27 32 [t 25,t 26],aa 24 27,a8 28 24 0,a8 29 24 1,aa 9 28,aa 10 29] ((ab [aa 30 10,ay 31 .neq 30 0] (aA 31 (ab [aa 32 10,cO 4 (mov (c AV.esl)),cO 5 (mov (c AV.esl)),cO 6 (mov bk),aa 7 32] ret) skip)).seq ((ab [aa 33 1,bi 34 33,ay 35 .eql 34 0] (aA 35 (ab [cO 4 (mov (c AV.esl)),cO 5 (mov (c AV.esl)),cO 6 (mov ff),cO 7 (mov (cN 0))] ret) skip)).seq (ab [aa 36 1,cO 37 (ixaS 1 (t 36) (cN 0)),aK 38 37,bi 39 38,ay 40 .sub 39 1,aa 11 40] (ab [bJ 42 1 2,aa 43 11,ay 44 .add 43 1,aN 45 33 [t 42,t 44],aa 41 45,a8 46 41 0,a8 47 41 1,cO 12 (alloc (AV.agg [aY,AV.esl])),bU 2 12 46,aa 10 47] ((ab [aa 48 10,ay 49 .neq 48 0] (aA 49 (ab [aa 50 10,cO 4 (mov (c AV.esl)),cO 5 (mov (c AV.esl)),cO 6 (mov bk),aa 7 50] ret) skip)).seq (ab [bJ 52 2 12,aa 53 9,aN 54 34 [t 52,t 53],aa 51 54,a8 55 51 0,a8 56 51 1,a8 57 51 2,a8 58 51 3,aa 13 55,aa 14 56,aa 15 57,aa 10 58] ((ab [aa 59 10,ay 60 .neq 59 0] (aA 60 (ab [aa 61 10,cO 4 (mov (c AV.esl)),cO 5 (mov (c AV.esl)),cO 6 (mov bk),aa 7 61] ret) skip)).seq ((ab [aa 62 15] (aA 62 (ab [bJ 64 1 2,aa 65 11,ay 66 .add 65 1,aa 67 13,aN 68 11 [t 64,t 66,t 67],aa 63 68,a8 69 63 0,a8 70 63 1,aa 16 69,aa 17 70] (ab [aa 71 16,aa 72 17,ay 73 .eql 72 0,aa 74 17,aa 4 71,cO 5 (mov (c AV.esl)),aa 6 73,aa 7 74] ret)) skip)).seq (ab [bJ 76 1 2,aa 77 11,aa 78 14,aN 79 11 [t 76,t 77,t 78],aa 75 79,a8 80 75 0,a8 81 75 1,aa 18 80,aa 10 81] (ab [aa 82 18,aa 83 10,cO 4 (mov (c AV.esl)),aa 5 82,cO 6 (mov bk),aa 7 83] ret))))))))))))))
theorem Iy:Is Tryz.prog 13 b13:=mkI Tryz.func13
def b14:F2:=(F2.mk 55 [RV.t 6] (ab [cO 3 (box (t 0)),cO 6 (mov (cN 0))] ((ab [bJ 13 1 3,aa 14 1,aa 15 2,aN 16 35 [t 13,t 14,t 15],aa 12 16,a8 17 12 0,a8 18 12 1,a8 19 12 2,aa 7 17,aa 8 18,aa 9 19] (ab [aa 20 9,ay 21 .neq 20 0] (aA 21 (ab [aa 22 9,aa 6 22] ret) skip))).seq (((ops 1 [aa 23 1,bi 24 23,ay 25 .gtr 24 0,aa 26 25,ap 27 26 (cM 2),ap 28 26 (lenS (t 27)),ap 29 26 (cB .gtr (t 28) (cN 0)),cO 30 (pick (t 26) (t 29) bk),aa 31 30,ap 32 31 (cM 2),ap 33 31 (ixaS 1 (t 32) (cN 0)),ap 34 31 (cD 33),ap 35 31 (lenS (t 34)),ap 36 31 (cM 1),ap 37 31 (ixaS 1 (t 36) (cN 0)),ap 38 31 (cD 37),ap 39 31 (lenS (t 38)),ap 40 31 (cB .add (t 39) (cN 1)),ap 41 31 (cB .neq (t 35) (t 40)),cO 42 (pick (t 31) (t 41) bk)]).seq (aA 42 (ab [cO 6 (mov (cN 15))] ret) skip)).seq (ab [aa 44 2,aN 45 12 [t 44],aa 43 45,a8 46 43 0,a8 47 43 1,aa 10 46,aa 11 47] ((ab [aa 48 11,ay 49 .neq 48 0] (aA 49 (ab [aa 50 11,aa 6 50] ret) skip)).seq ((ab [aa 51 10,aa 52 1,aN 53 36 ([t 51,t 52,c (AV.func 37 [])]),cO 54 (un UnOp.not (t 53))] (aA 54 (ab [cO 6 (mov (cN 18))] ret) skip)).seq (ab [cO 6 (mov (cN 0))] ret))))))))
theorem J4:Is Tryz.prog 14 b14:=mkI Tryz.func14
def b15:F2:=(F2.mk 12 [RV.t 2,RV.t 3] (ab [cO 1 (box (t 0)),cO 2 (mov (c AV.esl)),cO 3 (mov (cN 0))] ((ab [bJ 5 1 1,aN 6 21 [t 5],aa 4 6] (ab [aa 7 4,ay 8 .neq 7 0] (aA 8 (ab [aa 9 4,cO 2 (mov (c AV.esl)),aa 3 9] ret) skip))).seq (ab [bJ 10 1 1,aN 11 39 [t 10],aa 2 11,cO 3 (mov (cN 0))] ret))))
theorem JZ:Is Tryz.prog 15 b15:=mkI Tryz.func15
def b16:F2:=(F2.mk 26 [RV.t 4] (ab [cO 4 (mov bk)] ((ab [aa 6 0,bi 7 6,aa 8 1,bi 9 8,aR 10 .neq 7 9] (aA 10 (ab [cO 4 (mov bk)] ret) skip)).seq ((ab [aa 11 0,bi 12 11,cO 13 (mov (cN 0))] (block 0 (ab [aR 14 .lss 13 12] ((aA 14 skip (exit 0)).seq ((block 1 (ab [aa 15 13,aa 5 15] ((ops 1 [aa 16 0,aa 17 5,cO 18 (ixaS 1 (t 16) (t 17)),aK 19 18,aa 20 1,aa 21 5,cO 22 (ixaS 1 (t 20) (t 21)),aK 23 22,aR 24 .neq 19 23]).seq (aA 24 (ab [cO 4 (mov bk)] ret) skip)))).seq (ops 0 [ay 25 .add 13 1,aa 13 25])))).loop)).seq (ab [cO 4 (mov ff)] ret)))))
theorem J0:Is Tryz.prog 16 b16:=mkI Tryz.func16
def b17:F2:=(F2.mk 6 [RV.t 2] (ab [cO 1 (box (t 0)),cO 2 (mov bk)] (ab [cH 3 0 1,aK 4 3,aN 5 40 [t 4],aa 2 5] ret)))
theorem J5:Is Tryz.prog 17 b17:=mkI Tryz.func17
def b18:F2:=(F2.mk 68 [RV.t 2] (ab [cO 1 (box (t 0)),cO 2 (mov (cN 0))] (ab [cH 8 0 1,aK 9 8,aa 3 9] ((ab [aa 10 3,bi 11 10,ay 12 .gtr 11 4096] (aA 12 (ab [cO 2 (mov (cN 5))] ret) skip)).seq ((ab [cO 4 (mov (cN 0))] (block 0 ((ab [aa 13 4,aa 14 3,bi 15 14,aR 16 .lss 13 15] (aA 16 skip (exit 0))).seq ((block 1 ((ab [aa 19 3,aa 20 4,cO 21 (ixaS 1 (t 19) (t 20)),aK 22 21,aN 23 41 [t 22],aa 5 23] (ab [aa 24 5,ay 25 .neq 24 0] (aA 25 (ab [aa 26 5,aa 2 26] ret) skip))).seq ((mixS 1 [aa 27 4,ay 28 .gtr 27 0,aa 29 28,ap 30 29 (cM 3),ap 31 29 (cM 4),ap 32 29 (cB .sub (t 31) (cN 1)),ap 33 29 (ixaS 1 (t 30) (t 32)),ap 34 29 (cD 33),ap 35 29 (cM 3),ap 36 29 (cM 4),ap 37 29 (ixaS 1 (t 35) (t 36)),ap 38 29 (cD 37),ap 39 29 (call (cF 42) [t 34,t 38]),ap 40 29 (cB .geq (t 39) (cN 0)),cO 41 (pick (t 29) (t 40) bk)] [(0,0),(1,0),(2,0),(3,0),(4,0),(5,0),(6,0),(7,0),(8,0),(9,0),(10,0),(11,0),(12,2),(13,0),(14,0)]).seq (aA 41 (ab [cO 2 (mov (cN 14))] ret) skip)))).seq (ops 0 [aa 17 4,ay 18 .add 17 1,aa 4 18]))).loop)).seq ((ab [cO 6 (mov (cN 0))] (block 2 ((ab [aa 42 6,aa 43 3,bi 44 43,aR 45 .lss 42 44] (aA 45 skip (exit 2))).seq ((block 3 (ab [cO 7 (mov (cN 0))] (block 4 ((ab [aa 48 7,aa 49 3,bi 50 49,aR 51 .lss 48 50] (aA 51 skip (exit 4))).seq ((block 5 ((mixS 1 [aa 54 6,aa 55 7,aR 56 .neq 54 55,aa 57 56,ap 58 57 (cM 3),ap 59 57 (cM 6),ap 60 57 (ixaS 1 (t 58) (t 59)),ap 61 57 (cD 60),ap 62 57 (cM 3),ap 63 57 (cM 7),ap 64 57 (ixaS 1 (t 62) (t 63)),ap 65 57 (cD 64),ap 66 57 (call (cF 43) [t 61,t 65]),cO 67 (pick (t 57) (t 66) bk)] [(0,0),(1,0),(2,0),(3,0),(4,0),(5,0),(6,0),(7,0),(8,0),(9,0),(10,0),(11,0),(12,2),(13,0)]).seq (aA 67 (ab [cO 2 (mov (cN 7))] ret) skip))).seq (ops 0 [aa 52 7,ay 53 .add 52 1,aa 7 53]))).loop))).seq (ops 0 [aa 46 6,ay 47 .add 46 1,aa 6 47]))).loop)).seq (ab [cO 2 (mov (cN 0))] ret)))))))
theorem Kw:Is Tryz.prog 18 b18:=mkI Tryz.func18
def b19:F2:=(F2.mk 11 [RV.t 2] (ab [cO 1 (box (t 0)),cO 2 (mov (cN 0))] (ab [bJ 6 1 1,aN 7 7 [t 6],aa 5 7,a8 8 5 0,a8 9 5 1,aa 3 8,aa 4 9] (ab [aa 10 4,aa 2 10] ret))))
theorem Iz:Is Tryz.prog 19 b19:=mkI Tryz.func19
def b20:F2:=(F2.mk 79 [RV.t 2,RV.t 3] (ab [cO 1 (box (t 0)),cO 2 (mov (c AV.esl)),cO 3 (mov (cN 0))] (ab [bJ 16 1 1,aN 17 8 [t 16],aa 15 17,a8 18 15 0,a8 19 15 1,a8 20 15 2,aa 4 18,aa 5 19,aa 6 20] ((ab [aa 21 6,ay 22 .neq 21 0] (aA 22 (ab [aa 23 6,cO 2 (mov (c AV.esl)),aa 3 23] ret) skip)).seq (ab [cO 24 (mkm none),aa 7 24] ((ab [aa 25 4,ay 26 .add 25 2,cO 27 (mov (cN 0))] (block 0 (ab [aR 28 .lss 27 26] ((aA 28 skip (exit 0)).seq ((block 1 (ab [aa 29 27,aa 8 29] (ab [bJ 31 1 1,aa 32 8,aN 33 33 [t 31,t 32],aa 30 33,a8 34 30 0,a8 35 30 1,cO 9 (alloc (AV.agg [aY,AV.esl])),bU 2 9 34,aa 10 35] ((ab [aa 36 10,ay 37 .neq 36 0] (aA 37 (ab [aa 38 10,cO 2 (mov (c AV.esl)),aa 3 38] ret) skip)).seq (ab [aa 40 7,aa 41 8,bJ 42 2 9,aN 43 10 [t 42],aa 39 43,a8 44 39 0,a8 45 39 1,Op2.mk none none (mput (one int) (t 40) (t 41) (t 44)),aa 10 45] (ab [aa 46 10,ay 47 .neq 46 0] (aA 47 (ab [aa 48 10,cO 2 (mov (c AV.esl)),aa 3 48] ret) skip))))))).seq (ops 0 [ay 49 .add 27 1,aa 27 49])))).loop)).seq (ab [cO 11 (mov (c AV.esl))] ((ab [aa 50 4,ay 51 .add 50 1,cO 52 (mov (cN 0))] (block 2 (ab [aR 53 .lss 52 51] ((aA 53 skip (exit 2)).seq ((block 3 (ab [aa 54 52,aa 12 54] (ab [bJ 56 1 1,aa 57 12,aN 58 44 [t 56,t 57],aa 55 58,a8 59 55 0,a8 60 55 1,aa 13 59,aa 14 60] ((ab [aa 61 14,ay 62 .neq 61 0] (aA 62 (ab [aa 63 14,cO 2 (mov (c AV.esl)),aa 3 63] ret) skip)).seq (ops 0 [aa 64 11,aa 65 13,aa 66 7,aa 67 12,cO 68 (Ins.mget (one int) (aY) false (t 66) (t 67)),aR 69 .sub 65 68,aa 70 7,aa 71 12,ay 72 .add 71 1,cO 73 (Ins.mget (one int) (aY) false (t 70) (t 72)),aR 74 .sub 69 73,cO 75 (bldS 1 1 [aY] [(0,1,t 74)]),cO 76 (app 1 8 (t 64) (t 75)),aa 11 76]))))).seq (ops 0 [ay 77 .add 52 1,aa 52 77])))).loop)).seq (ab [aa 78 11,aa 2 78,cO 3 (mov (cN 0))] ret)))))))))
theorem Kp:Is Tryz.prog 20 b20:=mkI Tryz.func20
def b21:F2:=(F2.mk 60 [RV.t 2] (ab [cO 1 (box (t 0)),cO 2 (mov (cN 0))] ((ab [cH 9 0 1,aK 10 9,bi 11 10,ay 12 .gtr 11 4096] (aA 12 (ab [cO 2 (mov (cN 5))] ret) skip)).seq ((ab [cH 13 0 1,aK 14 13,bi 15 14,cO 16 (mov (cN 0))] (block 0 (ab [aR 17 .lss 16 15] ((aA 17 skip (exit 0)).seq ((block 1 (ab [aa 18 16,cO 19 (ixaS 1 (t 14) (t 16)),aK 20 19,aa 3 18,aa 4 20] ((ab [aa 21 4,aN 22 45 [t 21],aa 5 22] (ab [aa 23 5,ay 24 .neq 23 0] (aA 24 (ab [aa 25 5,aa 2 25] ret) skip))).seq (ab [aa 26 3,ay 27 .gtr 26 0,aa 28 27,ap 29 28 (fa 0 (t 1)),ap 30 28 (cD 29),ap 31 28 (cM 3),ap 32 28 (cB .sub (t 31) (cN 1)),ap 33 28 (ixaS 1 (t 30) (t 32)),ap 34 28 (cD 33),ap 35 28 (cM 4),ap 36 28 (call (cF 38) [t 34,t 35]),ap 37 28 (cB .geq (t 36) (cN 0)),cO 38 (pick (t 28) (t 37) bk)] (aA 38 (ab [cO 2 (mov (cN 14))] ret) skip))))).seq (ops 0 [ay 39 .add 16 1,aa 16 39])))).loop)).seq (ab [cH 40 0 1,aK 41 40,aN 42 46 [t 41],aa 6 42] ((ab [cH 43 0 1,aK 44 43,bi 45 44,cO 46 (mov (cN 0))] (block 2 (ab [aR 47 .lss 46 45] ((aA 47 skip (exit 2)).seq ((block 3 (ab [cO 48 (ixaS 1 (t 44) (t 46)),aK 49 48,aa 8 49] ((mixS 9 [cH 50 0 1,aK 51 50,aa 52 6,aa 53 8,cO 54 (ixaS 2 (t 53) (cN 0)),bJ 55 2 54,cO 56 (Ins.mget (MK.st [int,int]) AV.esl false (t 52) (t 55)),aa 57 8,aN 58 47 [t 51,t 56,t 57]] [(0,0),(1,0),(2,0),(3,0),(4,0),(5,0),(7,0),(6,1),(8,2)]).seq (aA 58 (ab [cO 2 (mov (cN 7))] ret) skip)))).seq (ops 0 [ay 59 .add 46 1,aa 46 59])))).loop)).seq (ab [cO 2 (mov (cN 0))] ret)))))))
theorem HQ:Is Tryz.prog 21 b21:=mkI Tryz.func21
def b22:F2:=(F2.mk 60 [RV.t 4,RV.t 5] (ab [cO 4 (mov (c AV.esl)),cO 5 (mov (cN 0))] (ab [cO 14 (mkm none),aa 6 14] (ab [cO 7 (mov (c AV.esl))] ((ab [aa 15 0,bi 16 15,cO 17 (mov (cN 0))] (block 0 (ab [aR 18 .lss 17 16] ((aA 18 skip (exit 0)).seq ((block 1 (ab [cO 19 (ixaS 1 (t 15) (t 17)),aK 20 19,aa 9 20] ((ab [aa 21 9,bi 22 21,aa 23 1,aR 24 .lss 22 23] (aA 24 (exit 1) skip)).seq (ab [aa 26 9,aa 27 1,aN 28 48 [t 26,t 27],aa 25 28,a8 29 25 0,a8 30 25 1,aa 10 29,aa 11 30] ((ab [aa 31 11,ay 32 .neq 31 0] (aA 32 (ab [aa 33 11,cO 4 (mov (c AV.esl)),aa 5 33] ret) skip)).seq ((ab [aa 34 10,bi 35 34,cO 36 (mov (cN 0))] (block 2 (ab [aR 37 .lss 36 35] ((aA 37 skip (exit 2)).seq ((block 3 (ab [cO 38 (ixaS 1 (t 34) (t 36)),aK 39 38,aa 13 39] (ab [aa 40 6,aa 41 13,aN 42 49 [t 41],cO 43 (Ins.mget (MK.st [int,int,int,int,int,int,int,int,int,int,int,int,int,int,int,int]) (AV.bool false) false (t 40) (t 42)),cO 44 (un UnOp.not (t 43))] (aA 44 (ab [aa 45 6,aa 46 13,aN 47 49 [t 46],Op2.mk none none (mput (MK.st [int,int,int,int,int,int,int,int,int,int,int,int,int,int,int,int]) (t 45) (t 47) ff)] (ops 0 [aa 48 7,aa 49 13,cO 50 (bldS 1 1 [AV.esl] [(0,1,t 49)]),cO 51 (app 1 24 (t 48) (t 50)),aa 7 51])) skip)))).seq (ops 0 [ay 52 .add 36 1,aa 36 52])))).loop)).seq (ab [aa 53 7,bi 54 53,ay 55 .gtr 54 4096] (aA 55 (ab [cO 4 (mov (c AV.esl)),cO 5 (mov (cN 17))] ret) skip)))))))).seq (ops 0 [ay 56 .add 17 1,aa 17 56])))).loop)).seq (ab [aa 57 7,aN 58 50 ([t 57,c (AV.func 38 [])])] (ab [aa 59 7,aa 4 59,cO 5 (mov (cN 0))] ret)))))))
theorem J9:Is Tryz.prog 22 b22:=mkI Tryz.func22
def b23:F2:=(F2.mk 33 [RV.t 2,RV.t 3] (ab [cO 1 (box (t 0)),cO 2 (mov (cN 0)),cO 3 (mov bk)] (ab [cO 4 (mov (cN 8)),cO 5 (mov (cN 0))] ((ab [cH 8 0 1,aK 9 8,bi 10 9,cO 11 (mov (cN 0))] (block 0 (ab [aR 12 .lss 11 10] ((aA 12 skip (exit 0)).seq ((block 1 (ab [cO 13 (ixaS 1 (t 9) (t 11)),aK 14 13,aa 7 14] (ops 0 [aa 15 4,aa 16 7,bi 17 16,cO 18 (mn (t 15) [t 17]),aa 19 5,aa 20 7,bi 21 20,cO 22 (mx (t 19) [t 21]),aa 4 18,aa 5 22]))).seq (ops 0 [ay 23 .add 11 1,aa 11 23])))).loop)).seq (ab [aa 24 5,ay 25 .sub 24 1,aa 26 5,ay 27 .eql 26 0,aa 28 27,cR 29 28 (cM 4),cR 30 28 (cM 5),cR 31 28 (cB .eql (t 29) (t 30)),cO 32 (pick (t 28) ff (t 31)),aa 2 25,aa 3 32] ret)))))
theorem Ki:Is Tryz.prog 23 b23:=mkI Tryz.func23
def b24:F2:=(F2.mk 14 [RV.t 4,RV.t 5] (ab [cO 2 (box (t 0)),cO 4 (mov (c AV.esl)),cO 5 (mov (cN 0))] ((ab [aa 6 1,ay 7 .lss 6 0] (aA 7 (ab [cO 4 (mov (c AV.esl)),cO 5 (mov (cN 0))] ret) skip)).seq (ab [bJ 8 1 2,aa 9 1,ay 10 .add 9 1,aN 11 51 [t 8,t 10],a8 12 11 0,a8 13 11 1,aa 4 12,aa 5 13] ret))))
theorem KB:Is Tryz.prog 24 b24:=mkI Tryz.func24
def b25:F2:=(F2.mk 4 [RV.t 2] (ab [cO 1 (box (t 0)),cO 2 (mov (c AV.nilf))] (ab [cO 3 (mkfn 52 [t 1]),aa 2 3] ret)))
theorem J7:Is Tryz.prog 25 b25:=mkI Tryz.func25
def b26:F2:=(F2.mk 11 [RV.t 4,RV.t 5] (ab [cO 4 (mov (cN 0)),cO 5 (mov bk)] (ab [aa 6 0,aa 7 1,aN 8 54 ([t 6,t 7,c (AV.func 38 [])]),a8 9 8 0,a8 10 8 1,aa 4 9,aa 5 10] ret)))
theorem JE:Is Tryz.prog 26 b26:=mkI Tryz.func26
def b27:F2:=(F2.mk 39 [RV.cn 2 2,RV.t 3] (ab [cO 1 (box (t 0)),cO 2 (alloc (AV.agg [aY,AV.esl])),cO 3 (mov (cN 0))] ((ab [bJ 10 2 1,aN 11 55 [t 10],aa 4 11] (ab [aa 12 4,ay 13 .neq 12 0] (aA 13 (ab [cO 14 (bld [aY,AV.esl] []),aa 15 4,bU 2 2 14,aa 3 15] ret) skip))).seq (ab [cH 16 0 1,aK 17 16,cO 18 (bld [aY,AV.esl] [(0,1,t 17)]),cO 5 (alloc (AV.agg [aY,AV.esl])),bU 2 5 18] (ab [bJ 20 2 1,aN 21 56 [t 20],aa 19 21,a8 22 19 0,a8 23 19 1,aa 6 22,aa 7 23] ((ab [aa 24 6,bi 25 24,cO 26 (mov (cN 0))] (block 0 (ab [aR 27 .lss 26 25] ((aA 27 skip (exit 0)).seq ((block 1 (ab [cO 28 (ixaS 2 (t 24) (t 26)),bJ 29 2 28,cO 9 (alloc (AV.agg [AV.esl,AV.esl])),bU 2 9 29] (ops 0 [cH 30 1 5,aK 31 30,cH 32 0 9,aK 33 32,cO 34 (bldS 1 1 [AV.esl] [(0,1,t 33)]),cO 35 (app 1 24 (t 31) (t 34)),cH 36 1 5,bU 1 36 35]))).seq (ops 0 [ay 37 .add 26 1,aa 26 37])))).loop)).seq (ab [bJ 38 2 5,bU 2 2 38,cO 3 (mov (cN 0))] ret)))))))
theorem JC:Is Tryz.prog 27 b27:=mkI Tryz.func27
def b28:F2:=(F2.mk 19 [RV.t 2] (ab [cO 2 (mov (c AV.esl))] (ab [cO 3 (mov (c AV.esl))] ((ab [aa 6 0,bi 7 6,cO 8 (mov (cN 0))] (block 0 (ab [aR 9 .lss 8 7] ((aA 9 skip (exit 0)).seq ((block 1 (ab [cO 10 (ixaS 1 (t 6) (t 8)),aK 11 10,aa 5 11] (ops 0 [aa 12 3,aa 13 5,aN 14 57 [t 13],cO 15 (bldS 1 1 [AV.esl] [(0,1,t 14)]),cO 16 (app 1 24 (t 12) (t 15)),aa 3 16]))).seq (ops 0 [ay 17 .add 8 1,aa 8 17])))).loop)).seq (ab [aa 18 3,aa 2 18] ret)))))
theorem Jy:Is Tryz.prog 28 b28:=mkI Tryz.func28
def b29:F2:=(F2.mk 43 [RV.t 2] (ab [cO 2 (mov (cN 0))] ((ab [aa 6 0,bi 7 6,ay 8 .gtr 7 4096] (aA 8 (ab [cO 2 (mov (cN 5))] ret) skip)).seq ((ab [aa 9 0,bi 10 9,cO 11 (mov (cN 0))] (block 0 (ab [aR 12 .lss 11 10] ((aA 12 skip (exit 0)).seq ((block 1 (ab [aa 13 11,cO 14 (ixaS 1 (t 9) (t 11)),aK 15 14,aa 3 13,aa 4 15] ((ab [aa 16 4,aN 17 45 [t 16],aa 5 17] (ab [aa 18 5,ay 19 .neq 18 0] (aA 19 (ab [aa 20 5,aa 2 20] ret) skip))).seq (block 2 (ab [aa 22 4,bi 23 22,aa 24 0,cO 25 (ixaS 1 (t 24) (cN 0)),aK 26 25,bi 27 26,aR 28 .neq 23 27,aa 21 28] (aA 21 (ab [cO 2 (mov (cN 15))] ret) (ab [aa 30 3,ay 31 .gtr 30 0,aa 32 31,ap 33 32 (cM 0),ap 34 32 (cM 3),ap 35 32 (cB .sub (t 34) (cN 1)),ap 36 32 (ixaS 1 (t 33) (t 35)),ap 37 32 (cD 36),ap 38 32 (cM 4),ap 39 32 (call (cF 38) [t 37,t 38]),ap 40 32 (cB .geq (t 39) (cN 0)),cO 41 (pick (t 32) (t 40) bk),aa 29 41] (aA 29 (ab [cO 2 (mov (cN 14))] ret) skip)))))))).seq (ops 0 [ay 42 .add 11 1,aa 11 42])))).loop)).seq (ab [cO 2 (mov (cN 0))] ret)))))
theorem JM:Is Tryz.prog 29 b29:=mkI Tryz.func29
def b30:F2:=(F2.mk 9 [RV.t 2,RV.t 3] (ab [cO 2 (mov (c AV.esl)),cO 3 (mov (cN 0))] ((ab [aa 4 0,bi 5 4,ay 6 .gtr 5 4096] (aA 6 (ab [cO 2 (mov (c AV.esl)),cO 3 (mov (cN 5))] ret) skip)).seq (ab [aa 7 0,aN 8 28 [t 7],aa 2 8,cO 3 (mov (cN 0))] ret))))
theorem Kc:Is Tryz.prog 30 b30:=mkI Tryz.func30
def b31:F2:=(F2.mk 52 [RV.t 2] (ab [cO 2 (mov (c AV.esl))] (ab [cO 13 (mkm none),cO 3 (alloc AV.nilm),bU 1 3 13] ((ab [aa 14 0,bi 15 14,cO 16 (mov (cN 0))] (block 0 (ab [aR 17 .lss 16 15] ((aA 17 skip (exit 0)).seq ((block 1 (ab [cO 18 (ixaS 1 (t 14) (t 16)),aK 19 18,aa 5 19] (ab [aa 20 5,aN 21 25 [t 20]] (block 2 (rangeF (t 21) [22] (ops 0 [aa 6 22]) (block 3 (ab [cO 7 (alloc (AV.agg [aY,aY,aY,aY,aY,aY,aY,aY,aY,aY,aY,aY,aY,aY,aY,aY]))] (ab [cO 23 (slp 8 2 (t 7)),aa 24 6,cO 25 (cpy 2 (t 23) (t 24))] (ab [aK 27 3,bJ 28 16 7,cO 29 (Ins.mget (MK.st [int,int,int,int,int,int,int,int,int,int,int,int,int,int,int,int]) AV.esl true (t 27) (t 28)),aa 26 29,a8 30 26 0,a8 31 26 1,aa 8 30,aa 9 31] (ab [aa 32 9] (aA 32 (ops 0 [aK 33 3,bJ 34 16 7,Op2.mk none none (mdel (MK.st [int,int,int,int,int,int,int,int,int,int,int,int,int,int,int,int]) (t 33) (t 34))]) (ops 0 [aK 35 3,bJ 36 16 7,aa 37 6,Op2.mk none none (mput (MK.st [int,int,int,int,int,int,int,int,int,int,int,int,int,int,int,int]) (t 35) (t 36) (t 37))])))))))))))).seq (ops 0 [ay 38 .add 16 1,aa 16 38])))).loop)).seq (ab [cO 10 (mov (c AV.esl))] ((ab [aK 39 3,cO 40 (mrng (t 39))] (block 4 (ab [cO 41 (mnxt (t 40)),a8 42 41 0] ((aA 42 skip (exit 4)).seq (block 5 (ab [cO 43 (ment (t 40)),a8 44 43 1,aa 12 44] (ops 0 [aa 45 10,aa 46 12,cO 47 (bldS 1 1 [AV.esl] [(0,1,t 46)]),cO 48 (app 1 24 (t 45) (t 47)),aa 10 48]))))).loop)).seq (ab [aa 49 10,aN 50 50 ([t 49,c (AV.func 38 [])])] (ab [aa 51 10,aa 2 51] ret))))))))
theorem Kv:Is Tryz.prog 31 b31:=mkI Tryz.func31
def b32:F2:=(F2.mk 31 [RV.t 4,RV.t 5] (ab [cO 2 (box (t 0)),cO 4 (mov (c AV.esl)),cO 5 (mov (cN 0))] (ab [bJ 10 1 2,aa 11 1,aN 12 58 [t 10,t 11],aa 9 12,a8 13 9 0,a8 14 9 1,aa 6 13,aa 7 14] ((ab [aa 15 7,ay 16 .neq 15 0] (aA 16 (ab [aa 17 7,cO 4 (mov (c AV.esl)),aa 5 17] ret) skip)).seq (ab [aa 19 1,aN 20 59 [t 19],aa 18 20,a8 21 18 0,a8 22 18 1,aa 8 21,aa 7 22] ((ab [aa 23 7,ay 24 .eql 23 0,aa 25 24,ap 26 25 (cM 8),ap 27 25 (un UnOp.not (t 26)),cO 28 (pick (t 25) (t 27) bk)] (aA 28 (ab [cO 4 (mov (c AV.esl)),cO 5 (mov (cN 3))] ret) skip)).seq (ab [aa 29 6,aa 30 7,aa 4 29,aa 5 30] ret)))))))
theorem JG:Is Tryz.prog 32 b32:=mkI Tryz.func32
def b33:F2:=(F2.mk 26 [RV.cn 4 2,RV.t 5] (ab [cO 2 (box (t 0)),cO 4 (alloc (AV.agg [aY,AV.esl])),cO 5 (mov (cN 0))] ((ab [aa 8 1,ay 9 .lss 8 8] (aA 9 (ab [bJ 10 1 2,aa 11 1,aN 12 9 [t 10,t 11],a8 13 12 0,a8 14 12 1,bU 2 4 13,aa 5 14] ret) skip)).seq (ab [bJ 16 1 2,aa 17 1,ay 18 .sub 17 1,aN 19 44 [t 16,t 18],aa 15 19,a8 20 15 0,a8 21 15 1,aa 6 20,aa 7 21] (ab [aa 22 6,cO 23 (mks 1 24 [AV.esl] (t 22) (t 22)),cO 24 (bld [aY,AV.esl] [(1,1,t 23)]),aa 25 7,bU 2 4 24,aa 5 25] ret)))))
theorem Ky:Is Tryz.prog 33 b33:=mkI Tryz.func33
def b34:F2:=(F2.mk 65 [RV.t 4,RV.t 5,RV.t 6,RV.t 7] (ab [cO 2 (box (t 0)),cO 4 (mov (c AV.esl)),cO 5 (mov (c AV.esl)),cO 6 (mov bk),cO 7 (mov (cN 0))] ((ab [bJ 17 2 2,aN 18 55 [t 17],aa 8 18] (ab [aa 19 8,ay 20 .neq 19 0] (aA 20 (ab [aa 21 8,cO 4 (mov (c AV.esl)),cO 5 (mov (c AV.esl)),cO 6 (mov bk),aa 7 21] ret) skip))).seq ((ab [aa 22 1,cH 23 1 2,aK 24 23,bi 25 24,aN 26 60 [t 22,t 25],aa 9 26] (ab [aa 27 9,ay 28 .neq 27 0] (aA 28 (ab [aa 29 9,cO 4 (mov (c AV.esl)),cO 5 (mov (c AV.esl)),cO 6 (mov bk),aa 7 29] ret) skip))).seq (ab [bJ 31 2 2,aN 32 56 [t 31],aa 30 32,a8 33 30 0,a8 34 30 1,aa 10 33,aa 11 34] ((ab [aa 35 11,bi 36 35,cO 37 (mov (cN 0))] (block 0 (ab [aR 38 .lss 37 36] ((aA 38 skip (exit 0)).seq ((block 1 (ab [cO 39 (ixaS 1 (t 35) (t 37)),aK 40 39,aa 13 40] (ab [aa 41 13,aa 42 1,aN 43 61 [t 41,t 42]] (aA 43 (ab [aa 44 13,cO 4 (mov (c AV.esl)),aa 5 44,cO 6 (mov bk),cO 7 (mov (cN 0))] ret) skip)))).seq (ops 0 [ay 45 .add 37 1,aa 37 45])))).loop)).seq (ab [cO 14 (mov (c AV.esl))] ((ab [aa 46 10,bi 47 46,cO 48 (mov (cN 0))] (block 2 (ab [aR 49 .lss 48 47] ((aA 49 skip (exit 2)).seq ((block 3 (ab [cO 50 (ixaS 2 (t 46) (t 48)),bJ 51 2 50,cO 16 (alloc (AV.agg [AV.esl,AV.esl])),bU 2 16 51] (ab [cH 52 1 16,aK 53 52,aa 54 1,aN 55 61 [t 53,t 54]] (aA 55 (ops 0 [aa 56 14,cH 57 0 16,aK 58 57,cO 59 (ixaS 1 (t 58) (cN 0)),aK 60 59,cO 61 (bldS 1 1 [aY] [(0,1,t 60)]),cO 62 (app 1 8 (t 56) (t 61)),aa 14 62]) skip)))).seq (ops 0 [ay 63 .add 48 1,aa 48 63])))).loop)).seq (ab [aa 64 14,aa 4 64,cO 5 (mov (c AV.esl)),cO 6 (mov ff),cO 7 (mov (cN 0))] ret)))))))))
theorem JK:Is Tryz.prog 34 b34:=mkI Tryz.func34
def b35:F2:=(F2.mk 36 [RV.t 6,RV.t 7,RV.t 8] (ab [cO 3 (box (t 0)),cO 6 (mov (c AV.esl)),cO 7 (mov (c AV.esl)),cO 8 (mov (cN 0))] ((ab [bJ 13 1 3,aN 14 19 [t 13],aa 9 14] (ab [aa 15 9,ay 16 .neq 15 0] (aA 16 (ab [aa 17 9,cO 6 (mov (c AV.esl)),cO 7 (mov (c AV.esl)),aa 8 17] ret) skip))).seq (ab [bJ 19 1 3,aa 20 1,aN 21 58 [t 19,t 20],aa 18 21,a8 22 18 0,a8 23 18 1,aa 10 22,aa 11 23] ((ab [aa 24 11,ay 25 .neq 24 0] (aA 25 (ab [aa 26 11,cO 6 (mov (c AV.esl)),cO 7 (mov (c AV.esl)),aa 8 26] ret) skip)).seq (ab [bJ 28 1 3,aa 29 2,aN 30 58 [t 28,t 29],aa 27 30,a8 31 27 0,a8 32 27 1,aa 12 31,aa 11 32] (ab [aa 33 10,aa 34 12,aa 35 11,aa 6 33,aa 7 34,aa 8 35] ret)))))))
theorem JW:Is Tryz.prog 35 b35:=mkI Tryz.func35
def b36:F2:=(F2.mk 32 [RV.t 6] (ab [cO 6 (mov bk)] ((ab [aa 10 0,bi 11 10,aa 12 1,bi 13 12,aR 14 .neq 11 13] (aA 14 (ab [cO 6 (mov bk)] ret) skip)).seq ((ab [aa 15 0,bi 16 15,cO 17 (mov (cN 0))] (block 0 (ab [aR 18 .lss 17 16] ((aA 18 skip (exit 0)).seq ((block 1 (ab [aa 19 17,cO 20 (ixaS 1 (t 15) (t 17)),aK 21 20,aa 7 19,aa 8 21] (ab [aa 22 1,aa 23 7,cO 24 (ixaS 1 (t 22) (t 23)),aK 25 24,aa 9 25] (ab [aa 26 2,aa 27 8,aa 28 9,cO 29 (call (t 26) [t 27,t 28]),cO 30 (un UnOp.not (t 29))] (aA 30 (ab [cO 6 (mov bk)] ret) skip))))).seq (ops 0 [ay 31 .add 17 1,aa 17 31])))).loop)).seq (ab [cO 6 (mov ff)] ret)))))
theorem JA:Is Tryz.prog 36 b36:=mkI Tryz.func36
def b37:F2:=(F2.mk 9 [RV.t 4] (ab [cO 4 (mov bk)] (ab [aa 5 0,aa 6 1,aN 7 38 [t 5,t 6],ay 8 .eql 7 0,aa 4 8] ret)))
theorem JX:Is Tryz.prog 37 b37:=mkI Tryz.func37
def b38:F2:=(F2.mk 8 [RV.t 4] (ab [cO 4 (mov (cN 0))] (ab [aa 5 0,aa 6 1,aN 7 62 ([t 5,t 6,c (AV.func 63 [])]),aa 4 7] ret)))
theorem HR:Is Tryz.prog 38 b38:=mkI Tryz.func38
def b39:F2:=(F2.mk 10 [RV.t 2] (ab [cO 1 (box (t 0)),cO 2 (mov (c AV.esl))] (ab [bJ 4 1 1,aN 5 65 [t 4],aN 6 64 [t 5],aa 3 6] (ab [aa 7 3,aN 8 66 ([t 7,c (AV.func 67 [])])] (ab [aa 9 3,aa 2 9] ret)))))
theorem KD:Is Tryz.prog 39 b39:=mkI Tryz.func39
def b40:F2:=(F2.mk 19 [RV.t 2] (ab [cO 2 (mov bk)] ((ab [aa 4 0,bi 5 4,ay 6 .gtr 5 30] (aA 6 (ab [cO 2 (mov bk)] ret) skip)).seq ((ab [cO 3 (mov (cN 0))] (block 0 ((ab [aa 7 3,aa 8 0,bi 9 8,aR 10 .lss 7 9] (aA 10 skip (exit 0))).seq ((block 1 (ab [aa 13 0,aa 14 3,cO 15 (ixaS 1 (t 13) (t 14)),aK 16 15,aN 17 68 [t 16],cO 18 (un UnOp.not (t 17))] (aA 18 (ab [cO 2 (mov bk)] ret) skip))).seq (ops 0 [aa 11 3,ay 12 .add 11 1,aa 3 12]))).loop)).seq (ab [cO 2 (mov ff)] ret)))))
theorem J1:Is Tryz.prog 40 b40:=mkI Tryz.func40
def b41:F2:=(F2.mk 39 [RV.t 2] (ab [cO 2 (mov (cN 0))] ((block 0 (ab [aa 5 0,bi 6 5,ay 7 .eql 6 0,aa 4 7] (aA 4 (ab [cO 2 (mov (cN 16))] ret) (ab [aa 9 0,bi 10 9,ay 11 .gtr 10 8,aa 8 11] (aA 8 (ab [cO 2 (mov (cN 5))] ret) skip))))).seq ((ab [cO 3 (mov (cN 0))] (block 1 ((ab [aa 12 3,aa 13 0,bi 14 13,aR 15 .lss 12 14] (aA 15 skip (exit 1))).seq ((block 2 ((ab [aa 18 0,aa 19 3,cO 20 (ixaS 2 (t 18) (t 19)),bJ 21 2 20,aN 22 69 [t 21],cO 23 (un UnOp.not (t 22))] (aA 23 (ab [cO 2 (mov (cN 2))] ret) skip)).seq ((mixS 1 [aa 24 3,ay 25 .gtr 24 0,aa 26 25,ap 27 26 (cM 0),ap 28 26 (cM 3),ap 29 26 (cB .sub (t 28) (cN 1)),ap 30 26 (ixaS 2 (t 27) (t 29)),ap 31 26 (ldn 2 (t 30)),ap 32 26 (cM 0),ap 33 26 (cM 3),ap 34 26 (ixaS 2 (t 32) (t 33)),ap 35 26 (ldn 2 (t 34)),ap 36 26 (call (cF 70) [t 31,t 35]),ap 37 26 (cB .geq (t 36) (cN 0)),cO 38 (pick (t 26) (t 37) bk)] [(0,0),(1,0),(2,0),(3,0),(4,0),(5,0),(6,0),(7,0),(8,0),(9,0),(10,0),(11,0),(12,2),(13,0),(14,0)]).seq (aA 38 (ab [cO 2 (mov (cN 14))] ret) skip)))).seq (ops 0 [aa 16 3,ay 17 .add 16 1,aa 3 17]))).loop)).seq (ab [cO 2 (mov (cN 0))] ret)))))
theorem Kk:Is Tryz.prog 41 b41:=mkI Tryz.func41
def b42:F2:=(F2.mk 43 [RV.t 4] (ab [cO 4 (mov (cN 0))] ((ab [cO 5 (mov (cN 0))] (block 0 ((ab [aa 7 5,aa 8 0,bi 9 8,aR 10 .lss 7 9,aa 11 10,ap 12 11 (cM 5),ap 13 11 (cM 1),ap 14 11 (lenS (t 13)),ap 15 11 (cB .lss (t 12) (t 14)),cO 16 (pick (t 11) (t 15) bk)] (aA 16 skip (exit 0))).seq ((block 1 ((mixS 1 [aa 19 0,aa 20 5,cO 21 (ixaS 2 (t 19) (t 20)),bJ 22 2 21,aa 23 1,aa 24 5,cO 25 (ixaS 2 (t 23) (t 24)),bJ 26 2 25,aN 27 70 [t 22,t 26],aa 6 27] [(0,0),(1,0),(2,0),(3,0),(4,0),(5,0),(6,0),(7,0),(8,2),(9,0)]).seq (ab [aa 28 6,ay 29 .neq 28 0] (aA 29 (ab [aa 30 6,aa 4 30] ret) skip)))).seq (ops 0 [aa 17 5,ay 18 .add 17 1,aa 5 18]))).loop)).seq ((block 2 (ab [aa 32 0,bi 33 32,aa 34 1,bi 35 34,aR 36 .lss 33 35,aa 31 36] (aA 31 (ab [cO 4 (mov (cN ((-1))))] ret) (ab [aa 38 0,bi 39 38,aa 40 1,bi 41 40,aR 42 .gtr 39 41,aa 37 42] (aA 37 (ab [cO 4 (mov (cN 1))] ret) skip))))).seq (ab [cO 4 (mov (cN 0))] ret)))))
theorem Kt:Is Tryz.prog 42 b42:=mkI Tryz.func42
def b43:F2:=(F2.mk 19 [RV.t 4] (ab [cO 4 (mov bk)] ((ab [cO 5 (mov (cN 0))] (block 0 ((ab [aa 6 5,aa 7 0,bi 8 7,aR 9 .lss 6 8] (aA 9 skip (exit 0))).seq ((block 1 (ab [aa 12 1,aa 13 0,aa 14 5,cO 15 (ixaS 2 (t 13) (t 14)),bJ 16 2 15,aN 17 71 [t 12,t 16],cO 18 (un UnOp.not (t 17))] (aA 18 (ab [cO 4 (mov bk)] ret) skip))).seq (ops 0 [aa 10 5,ay 11 .add 10 1,aa 5 11]))).loop)).seq (ab [cO 4 (mov ff)] ret))))
theorem JL:Is Tryz.prog 43 b43:=mkI Tryz.func43
def b44:F2:=(F2.mk 24 [RV.t 4,RV.t 5] (ab [cO 2 (box (t 0)),cO 4 (mov (cN 0)),cO 5 (mov (cN 0))] ((ab [aa 8 1,ay 9 .lss 8 0,aa 10 9,cR 11 10 (cM 1),cR 12 10 (cB .geq (t 11) (cN 8)),cO 13 (pick (t 10) ff (t 12))] (aA 13 (ab [cO 4 (mov (cN 0)),cO 5 (mov (cN 0))] ret) skip)).seq (ab [bJ 15 1 2,aa 16 1,ay 17 .add 16 1,aN 18 51 [t 15,t 17],aa 14 18,a8 19 14 0,a8 20 14 1,aa 6 19,aa 7 20] (ab [aa 21 6,bi 22 21,aa 23 7,aa 4 22,aa 5 23] ret)))))
theorem JQ:Is Tryz.prog 44 b44:=mkI Tryz.func44
def b45:F2:=(F2.mk 36 [RV.t 2] (ab [cO 2 (mov (cN 0))] ((block 0 (ab [aa 6 0,bi 7 6,ay 8 .eql 7 0,aa 5 8] (aA 5 (ab [cO 2 (mov (cN 16))] ret) (ab [aa 10 0,bi 11 10,ay 12 .gtr 11 8,aa 9 12] (aA 9 (ab [cO 2 (mov (cN 5))] ret) skip))))).seq ((ab [aa 13 0,bi 14 13,cO 15 (mov (cN 0))] (block 1 (ab [aR 16 .lss 15 14] ((aA 16 skip (exit 1)).seq ((block 2 (ab [aa 17 15,cO 18 (ixaS 2 (t 13) (t 15)),bJ 19 2 18,cO 4 (alloc (AV.agg [aY,aY])),aa 3 17,bU 2 4 19] ((ab [bJ 20 2 4,aN 21 72 [t 20],cO 22 (un UnOp.not (t 21))] (aA 22 (ab [cO 2 (mov (cN 2))] ret) skip)).seq ((mixS 1 [aa 23 3,ay 24 .gtr 23 0,aa 25 24,ap 26 25 (cM 0),ap 27 25 (cM 3),ap 28 25 (cB .sub (t 27) (cN 1)),ap 29 25 (ixaS 2 (t 26) (t 28)),ap 30 25 (ldn 2 (t 29)),ap 31 25 (ldn 2 (t 4)),ap 32 25 (call (cF 63) [t 30,t 31]),ap 33 25 (cB .geq (t 32) (cN 0)),cO 34 (pick (t 25) (t 33) bk)] [(0,0),(1,0),(2,0),(3,0),(4,0),(5,0),(6,0),(7,0),(8,0),(9,2),(10,0),(11,0)]).seq (aA 34 (ab [cO 2 (mov (cN 14))] ret) skip))))).seq (ops 0 [ay 35 .add 15 1,aa 15 35])))).loop)).seq (ab [cO 2 (mov (cN 0))] ret)))))
theorem HW:Is Tryz.prog 45 b45:=mkI Tryz.func45
def b46:F2:=(F2.mk 33 [RV.t 2] (ab [cO 2 (mov (c AV.nilm))] (ab [cO 8 (mkm none),aa 3 8] ((ab [aa 9 0,bi 10 9,cO 11 (mov (cN 0))] (block 0 (ab [aR 12 .lss 11 10] ((aA 12 skip (exit 0)).seq ((block 1 (ab [aa 13 11,cO 14 (ixaS 1 (t 9) (t 11)),aK 15 14,aa 4 13,aa 5 15] (ab [aa 16 5,bi 17 16,cO 18 (mov (cN 0))] (block 2 (ab [aR 19 .lss 18 17] ((aA 19 skip (exit 2)).seq ((block 3 (ab [cO 20 (ixaS 2 (t 16) (t 18)),bJ 21 2 20,cO 7 (alloc (AV.agg [aY,aY])),bU 2 7 21] (ops 0 [aa 22 3,bJ 23 2 7,aa 25 4,cO 26 (bldS 1 1 [aY] [(0,1,t 25)]),cO 27 (mplc (MK.st [int,int]) AV.esl (t 22) (t 23)),a8 24 27 0,cO 28 (app 1 8 (t 24) (t 26)),a8 29 27 1,Op2.mk none none (mpst (t 22) (t 29) (t 28))]))).seq (ops 0 [ay 30 .add 18 1,aa 18 30])))).loop)))).seq (ops 0 [ay 31 .add 11 1,aa 11 31])))).loop)).seq (ab [aa 32 3,aa 2 32] ret)))))
theorem HX:Is Tryz.prog 46 b46:=mkI Tryz.func46
def b47:F2:=(F2.mk 10 [RV.t 6] (ab [cO 3 (box (t 0)),cO 5 (box (t 2)),cO 6 (mov bk)] (ab [aa 7 1,cO 8 (mkfn 74 [t 3,t 5]),aN 9 73 [t 7,t 8],aa 6 9] ret)))
theorem Jo:Is Tryz.prog 47 b47:=mkI Tryz.func47
def b48:F2:=(F2.mk 24 [RV.t 4,RV.t 5] (ab [cO 4 (mov (c AV.esl)),cO 5 (mov (cN 0))] ((ab [aa 7 0,aN 8 45 [t 7],aa 6 8] (ab [aa 9 6,ay 10 .neq 9 0] (aA 10 (ab [aa 11 6,cO 4 (mov (c AV.esl)),aa 5 11] ret) skip))).seq ((ab [aa 12 1,ay 13 .lss 12 1,aa 14 13,cR 15 14 (cM 1),cR 16 14 (cM 0),cR 17 14 (lenS (t 16)),cR 18 14 (cB .gtr (t 15) (t 17)),cO 19 (pick (t 14) ff (t 18))] (aA 19 (ab [cO 4 (mov (c AV.esl)),cO 5 (mov (cN 2))] ret) skip)).seq (ab [aa 20 0,aa 21 1,aN 22 77 [t 20,t 21],aN 23 76 [t 22],aa 4 23,cO 5 (mov (cN 0))] ret)))))
theorem Jw:Is Tryz.prog 48 b48:=mkI Tryz.func48
def b49:F2:=(F2.mk 16 [RV.cn 2 16] (ab [cO 2 (alloc (AV.agg [aY,aY,aY,aY,aY,aY,aY,aY,aY,aY,aY,aY,aY,aY,aY,aY]))] (ab [cO 3 (alloc (AV.agg [aY,aY,aY,aY,aY,aY,aY,aY,aY,aY,aY,aY,aY,aY,aY,aY]))] ((ab [cO 5 (mov (cN 0))] (block 0 (ab [ay 6 .lss 5 8] ((aA 6 skip (exit 0)).seq ((block 1 (ab [aa 7 5,aa 4 7] (ops 0 [aa 8 4,cO 9 (ixaA 8 2 (t 3) (t 8)),cH 10 0 9,Op2.mk none none (Ins.st 1 (t 10) (cN ((-1))))]))).seq (ops 0 [ay 11 .add 5 1,aa 5 11])))).loop)).seq (ab [cO 12 (slp 8 2 (t 3)),aa 13 0,cO 14 (cpy 2 (t 12) (t 13))] (ab [bJ 15 16 3,bU 16 2 15] ret))))))
theorem Km:Is Tryz.prog 49 b49:=mkI Tryz.func49
def b50:F2:=(F2.mk 14 [] (ab [aa 5 0,bi 6 5,aa 4 6] (ops 0 [aa 7 0,aa 8 4,aa 9 4,cO 10 (conv IntKind.u64 (t 9)),aN 11 79 [t 10],aa 12 1,aN 13 78 ([t 7,cN ((0)),t 8,t 11,t 12])])))
theorem IL:Is Tryz.prog 50 b50:=mkI Tryz.func50
def b51:F2:=(F2.mk 24 [RV.t 4,RV.t 5] (ab [cO 2 (box (t 0)),cO 4 (mov (c AV.esl)),cO 5 (mov (cN 0))] ((ab [bJ 7 1 2,aN 8 21 [t 7],aa 6 8] (ab [aa 9 6,ay 10 .neq 9 0] (aA 10 (ab [aa 11 6,cO 4 (mov (c AV.esl)),aa 5 11] ret) skip))).seq ((ab [aa 12 1,ay 13 .lss 12 1,aa 14 13,cR 15 14 (cM 1),cR 16 14 (cB .gtr (t 15) (cN 8)),cO 17 (pick (t 14) ff (t 16))] (aA 17 (ab [cO 4 (mov (c AV.esl)),cO 5 (mov (cN 2))] ret) skip)).seq (ab [cH 18 0 2,aK 19 18,aa 20 1,aN 21 22 [t 19,t 20],a8 22 21 0,a8 23 21 1,aa 4 22,aa 5 23] ret)))))
theorem JB:Is Tryz.prog 51 b51:=mkI Tryz.func51
def b52:F2:=(F2.mk 27 [] (ab [aK 4 1,bi 5 4,cO 6 (mov (cN 0))] (block 0 (ab [aR 7 .lss 6 5] ((aA 7 skip (exit 0)).seq ((block 1 (ab [aa 8 6,aa 3 8] ((mixS 1 [aK 9 1,bi 10 9,ay 11 .gtr 10 1,aa 12 11,ap 13 12 (cM 0),ap 14 12 (cD 1),ap 15 12 (cM 3),ap 16 12 (sls 2 (t 14) none (some (t 15)) none),ap 17 12 (cD 1),ap 18 12 (cM 3),ap 19 12 (cB .add (t 18) (cN 1)),ap 20 12 (sls 2 (t 17) (some (t 19)) none none),ap 21 12 (bldS 1 2 [AV.esl] [(0,1,t 16),(1,1,t 20)]),ap 22 12 (call (cF 53) [t 21]),ap 23 12 (call (t 13) [t 22]),ap 24 12 (un UnOp.not (t 23)),cO 25 (pick (t 12) (t 24) bk)] [(0,0),(1,0),(2,0),(3,0),(4,0),(5,0),(6,0),(7,0),(8,0),(9,0),(10,0),(11,0),(12,2),(13,2),(14,2),(15,0),(16,0)]).seq (aA 25 ret skip)))).seq (ops 0 [ay 26 .add 6 1,aa 6 26])))).loop)))
theorem KC:Is Tryz.prog 52 b52:=mkI Tryz.func52
def b53:F2:=(F2.mk 36 [RV.t 2] (ab [cO 2 (mov (c AV.esl))] (ab [cO 3 (mov (cN 0))] ((ab [aa 9 0,bi 10 9,cO 11 (mov (cN 0))] (block 0 (ab [aR 12 .lss 11 10] ((aA 12 skip (exit 0)).seq ((block 1 (ab [cO 13 (ixaS 1 (t 9) (t 11)),aK 14 13,aa 5 14] (ab [aa 15 3,aa 16 5,bi 17 16,aR 18 .add 15 17,aa 3 18] (ab [aa 19 3,ay 20 .lss 19 0] (aA 20 (ops 0 [cO 21 dead,Op2.mk none none dead]) skip))))).seq (ops 0 [ay 22 .add 11 1,aa 11 22])))).loop)).seq (ab [aa 23 3,aN 24 80 [c AV.esl,t 23],aa 6 24] ((ab [aa 25 0,bi 26 25,cO 27 (mov (cN 0))] (block 2 (ab [aR 28 .lss 27 26] ((aA 28 skip (exit 2)).seq ((block 3 (ab [cO 29 (ixaS 1 (t 25) (t 27)),aK 30 29,aa 8 30] (ops 0 [aa 31 6,aa 32 8,cO 33 (app 2 16 (t 31) (t 32)),aa 6 33]))).seq (ops 0 [ay 34 .add 27 1,aa 27 34])))).loop)).seq (ab [aa 35 6,aa 2 35] ret)))))))
theorem Kr:Is Tryz.prog 53 b53:=mkI Tryz.func53
def b54:F2:=(F2.mk 49 [RV.t 6,RV.t 7] (ab [cO 6 (mov (cN 0)),cO 7 (mov bk)] (ab [aa 12 0,bi 13 12,aa 8 13] (ab [aa 14 8,cO 9 (mov (cN 0)),aa 10 14] ((block 0 ((ab [aa 15 9,aa 16 10,aR 17 .lss 15 16] (aA 17 skip (exit 0))).seq (block 1 (ab [aa 18 9,aa 19 10,aR 20 .add 18 19,cO 21 (conv IntKind.u64 (t 20)),cO 22 (cB .shr (t 21) (c (AV.int IntKind.u64 (1)))),cO 23 (conv IntKind.i64 (t 22)),aa 11 23] (ab [aa 24 2,aa 25 0,aa 26 11,cO 27 (ixaS 1 (t 25) (t 26)),aK 28 27,aa 29 1,cO 30 (call (t 24) [t 28,t 29]),ay 31 .lss 30 0] (aA 31 (ops 0 [aa 32 11,ay 33 .add 32 1,aa 9 33]) (ops 0 [aa 34 11,aa 10 34])))))).loop).seq (ab [aa 35 9,aa 36 9,aa 37 8,aR 38 .lss 36 37,aa 39 38,ap 40 39 (cM 2),ap 41 39 (cM 0),ap 42 39 (cM 9),ap 43 39 (ixaS 1 (t 41) (t 42)),ap 44 39 (cD 43),ap 45 39 (cM 1),ap 46 39 (call (t 40) [t 44,t 45]),ap 47 39 (cB .eql (t 46) (cN 0)),cO 48 (pick (t 39) (t 47) bk),aa 6 35,aa 7 48] ret))))))
theorem Kb:Is Tryz.prog 54 b54:=mkI Tryz.func54
def b55:F2:=(F2.mk 35 [RV.t 2] (ab [cO 1 (box (t 0)),cO 2 (mov (cN 0))] ((block 0 (ab [cH 7 0 1,aK 8 7,ay 9 .lss 8 0,aa 10 9,cR 11 10 (fa 0 (t 1)),cR 12 10 (cD 11),cR 13 10 (cB .gtr (t 12) (cN 4096)),cO 14 (pick (t 10) ff (t 13)),aa 6 14] (aA 6 (ab [cO 2 (mov (cN 2))] ret) (ab [cH 16 1 1,aK 17 16,bi 18 17,ay 19 .gtr 18 4096,aa 15 19] (aA 15 (ab [cO 2 (mov (cN 5))] ret) skip))))).seq ((ab [cH 20 1 1,aK 21 20,bi 22 21,cO 23 (mov (cN 0))] (block 1 (ab [aR 24 .lss 23 22] ((aA 24 skip (exit 1)).seq ((block 2 (ab [cO 25 (ixaS 1 (t 21) (t 23)),aK 26 25,aa 4 26] (ab [aa 27 4,cH 28 0 1,aK 29 28,aN 30 60 [t 27,t 29],aa 5 30] (ab [aa 31 5,ay 32 .neq 31 0] (aA 32 (ab [aa 33 5,aa 2 33] ret) skip))))).seq (ops 0 [ay 34 .add 23 1,aa 23 34])))).loop)).seq (ab [cO 2 (mov (cN 0))] ret)))))
theorem JU:Is Tryz.prog 55 b55:=mkI Tryz.func55
def b56:F2:=(F2.mk 95 [RV.t 2,RV.t 3] (ab [cO 1 (box (t 0)),cO 2 (mov (c AV.esl)),cO 3 (mov (c AV.esl))] (ab [cO 16 (mkm none),cO 4 (alloc AV.nilm),bU 1 4 16] (ab [cO 17 (mkfn 81 [t 4]),aa 5 17] (ab [cO 6 (mov (c AV.esl))] ((ab [cH 18 1 1,aK 19 18,bi 20 19,cO 21 (mov (cN 0))] (block 0 (ab [aR 22 .lss 21 20] ((aA 22 skip (exit 0)).seq ((block 1 (ab [aa 23 21,cO 24 (ixaS 1 (t 19) (t 21)),aK 25 24,aa 7 23,aa 8 25] (ab [aa 26 5,aa 27 8,aN 28 83 [t 27],aa 29 7,cO 30 (bldS 1 1 [aY] [(0,1,t 29)]),cO 31 (bld [AV.esl,AV.esl] [(0,1,t 28),(1,1,t 30)]),cO 32 (call (t 26) [t 31]),cO 9 (alloc (AV.agg [AV.esl,AV.esl])),bU 2 9 32] ((ab [cH 33 0 9,aK 34 33,bi 35 34,ay 36 .eql 35 0] (aA 36 (ab [aa 37 6,cH 38 1 9,aK 39 38,cO 40 (bldS 1 1 [AV.esl] [(0,1,t 39)]),cO 41 (app 1 24 (t 37) (t 40)),aa 6 41] (exit 1)) skip)).seq ((ab [aK 42 4,cO 43 (mrng (t 42))] (block 2 (ab [cO 44 (mnxt (t 43)),a8 45 44 0] ((aA 45 skip (exit 2)).seq (block 3 (ab [cO 46 (ment (t 43)),a8 47 46 0,a8 48 46 1,cO 11 (alloc (AV.agg [AV.esl,AV.esl])),aa 10 47,bU 2 11 48] ((mixS 1 [cH 49 0 11,aK 50 49,cH 51 0 9,aK 52 51,cO 53 (ixaS 1 (t 52) (cN 0)),aK 54 53,aN 55 84 [t 50,t 54]] [(0,0),(1,0),(2,0),(3,0),(4,0),(5,0),(6,2)]).seq (aA 55 (mixS 9 [aK 56 4,aa 57 10,cH 58 0 11,aK 59 58,cH 60 0 9,aK 61 60,aN 62 82 [t 59,t 61],cH 63 1 11,aK 64 63,cH 65 1 9,aK 66 65,aN 67 82 [t 64,t 66],cO 68 (bld [AV.esl,AV.esl] [(0,1,t 62),(1,1,t 67)]),Op2.mk none none (mput (one int) (t 56) (t 57) (t 68))] [(0,0),(1,0),(2,0),(3,0),(4,0),(5,0),(7,0),(8,0),(9,0),(10,0),(6,1),(11,1),(12,0),(13,2)]) skip)))))).loop)).seq (mixS 9 [aK 69 4,cH 70 0 9,aK 71 70,cO 72 (ixaS 1 (t 71) (cN 0)),aK 73 72,bJ 74 2 9,Op2.mk none none (mput (one int) (t 69) (t 73) (t 74))] [(0,0),(1,0),(2,0),(3,0),(4,0),(5,0),(6,2)])))))).seq (ops 0 [ay 75 .add 21 1,aa 21 75])))).loop)).seq (ab [cO 12 (mov (c AV.esl))] ((ab [cH 76 0 1,aK 77 76,cO 78 (mov (cN 0))] (block 4 (ab [aR 79 .lss 78 77] ((aA 79 skip (exit 4)).seq ((block 5 (ab [aa 80 78,aa 13 80] (ab [aK 82 4,aa 83 13,cO 84 (Ins.mget (one int) (AV.agg [AV.esl,AV.esl]) true (t 82) (t 83)),aa 81 84,a8 85 81 0,a8 86 81 1,cO 14 (alloc (AV.agg [AV.esl,AV.esl])),bU 2 14 85,aa 15 86] (ab [aa 87 15] (aA 87 (ops 0 [aa 88 12,bJ 89 2 14,cO 90 (bldS 2 1 [AV.esl,AV.esl] [(0,2,t 89)]),cO 91 (app 2 48 (t 88) (t 90)),aa 12 91]) skip))))).seq (ops 0 [ay 92 .add 78 1,aa 78 92])))).loop)).seq (ab [aa 93 12,aa 94 6,aa 2 93,aa 3 94] ret)))))))))
theorem Kq:Is Tryz.prog 56 b56:=mkI Tryz.func56
def b57:F2:=(F2.mk 8 [RV.t 2] (ab [cO 2 (mov (c AV.esl))] ((ab [aa 3 0,cO 4 (snil false (t 3))] (aA 4 (ab [cO 2 (mov (c AV.esl))] ret) skip)).seq (ab [cO 5 (bldS 2 0 [aY,aY] []),aa 6 0,cO 7 (app 2 16 (t 5) (t 6)),aa 2 7] ret))))
theorem Ht:Is Tryz.prog 57 b57:=mkI Tryz.func57
def b58:F2:=(F2.mk 60 [RV.t 4,RV.t 5] (ab [cO 2 (box (t 0)),cO 4 (mov (c AV.esl)),cO 5 (mov (cN 0))] ((ab [bJ 15 1 2,aN 16 21 [t 15],aa 6 16] (ab [aa 17 6,ay 18 .neq 17 0] (aA 18 (ab [aa 19 6,cO 4 (mov (c AV.esl)),aa 5 19] ret) skip))).seq ((ab [aa 20 1,aN 21 29 [t 20],aa 7 21] (ab [aa 22 7,ay 23 .neq 22 0] (aA 23 (ab [aa 24 7,cO 4 (mov (c AV.esl)),aa 5 24] ret) skip))).seq ((ab [aa 25 1,bi 26 25,ay 27 .eql 26 0] (aA 27 (ab [cO 4 (mov (c AV.esl)),cO 5 (mov (cN 0))] ret) skip)).seq ((mixS 1 [bJ 29 1 2,aa 30 1,cO 31 (ixaS 1 (t 30) (cN 0)),aK 32 31,bi 33 32,aN 34 51 [t 29,t 33],aa 28 34,a8 35 28 0,a8 36 28 1,aa 8 35,aa 9 36] [(0,0),(1,0),(2,0),(3,0),(4,0),(5,2),(6,0),(7,0),(8,0),(9,0),(10,0)]).seq ((ab [aa 37 9,ay 38 .neq 37 0] (aA 38 (ab [aa 39 9,cO 4 (mov (c AV.esl)),aa 5 39] ret) skip)).seq (ab [cO 10 (mov (c AV.esl))] ((ab [aa 40 1,bi 41 40,cO 42 (mov (cN 0))] (block 0 (ab [aR 43 .lss 42 41] ((aA 43 skip (exit 0)).seq ((block 1 (ab [cO 44 (ixaS 1 (t 40) (t 42)),aK 45 44,aa 12 45] (ab [aa 47 8,aa 48 12,aN 49 26 [t 47,t 48],aa 46 49,a8 50 46 0,a8 51 46 1,aa 13 50,aa 14 51] ((ab [aa 52 14,cO 53 (un UnOp.not (t 52))] (aA 53 (ab [cO 4 (mov (c AV.esl)),cO 5 (mov (cN 6))] ret) skip)).seq (ops 0 [aa 54 10,aa 55 13,cO 56 (bldS 1 1 [aY] [(0,1,t 55)]),cO 57 (app 1 8 (t 54) (t 56)),aa 10 57]))))).seq (ops 0 [ay 58 .add 42 1,aa 42 58])))).loop)).seq (ab [aa 59 10,aa 4 59,cO 5 (mov (cN 0))] ret))))))))))
theorem JV:Is Tryz.prog 58 b58:=mkI Tryz.func58
def b59:F2:=(F2.mk 14 [RV.t 2,RV.t 3] (ab [cO 2 (mov bk),cO 3 (mov (cN 0))] ((ab [aa 5 0,aN 6 29 [t 5],aa 4 6] (ab [aa 7 4,ay 8 .neq 7 0] (aA 8 (ab [aa 9 4,cO 2 (mov bk),aa 3 9] ret) skip))).seq (ab [aa 10 0,aN 11 31 [t 10],bi 12 11,ay 13 .eql 12 0,aa 2 13,cO 3 (mov (cN 0))] ret))))
theorem Kx:Is Tryz.prog 59 b59:=mkI Tryz.func59
def b60:F2:=(F2.mk 35 [RV.t 4] (ab [cO 4 (mov (cN 0))] ((ab [aa 7 0,bi 8 7,cO 9 (mov (cN 0))] (block 0 (ab [aR 10 .lss 9 8] ((aA 10 skip (exit 0)).seq ((block 1 (ab [aa 11 9,cO 12 (ixaS 1 (t 7) (t 9)),aK 13 12,aa 5 11,aa 6 13] (block 2 (ab [aa 15 6,ay 16 .lss 15 0,aa 17 16,cR 18 17 (cM 6),cR 19 17 (cM 1),cR 20 17 (cB .geq (t 18) (t 19)),cO 21 (pick (t 17) ff (t 20)),aa 14 21] (aA 14 (ab [cO 4 (mov (cN 2))] ret) (ab [aa 23 5,ay 24 .gtr 23 0,aa 25 24,ap 26 25 (cM 0),ap 27 25 (cM 5),ap 28 25 (cB .sub (t 27) (cN 1)),ap 29 25 (ixaS 1 (t 26) (t 28)),ap 30 25 (cD 29),ap 31 25 (cM 6),ap 32 25 (cB .geq (t 30) (t 31)),cO 33 (pick (t 25) (t 32) bk),aa 22 33] (aA 22 (ab [cO 4 (mov (cN 14))] ret) skip))))))).seq (ops 0 [ay 34 .add 9 1,aa 9 34])))).loop)).seq (ab [cO 4 (mov (cN 0))] ret))))
theorem J3:Is Tryz.prog 60 b60:=mkI Tryz.func60
def b61:F2:=(F2.mk 18 [RV.t 4] (ab [cO 4 (mov bk)] (ab [aa 5 0,bi 6 5,aa 7 1,bi 8 7,aR 9 .add 6 8,aa 10 0,aa 11 1,aN 12 82 [t 10,t 11],bi 13 12,aR 14 .sub 9 13,ay 15 .quo 14 2,ay 16 .rem 15 2,ay 17 .eql 16 1,aa 4 17] ret)))
theorem JS:Is Tryz.prog 61 b61:=mkI Tryz.func61
def b62:F2:=(F2.mk 39 [RV.t 6] (ab [cO 6 (mov (cN 0))] ((ab [aa 11 0,bi 12 11,cO 13 (mov (cN 0))] (block 0 (ab [aR 14 .lss 13 12] ((aA 14 skip (exit 0)).seq ((block 1 (ab [aa 15 13,cO 16 (ixaS 2 (t 11) (t 13)),bJ 17 2 16,cO 8 (alloc (AV.agg [aY,aY])),aa 7 15,bU 2 8 17] ((ab [aa 18 7,aa 19 1,bi 20 19,aR 21 .geq 18 20] (aA 21 (ab [cO 6 (mov (cN 1))] ret) skip)).seq (ab [aa 22 1,aa 23 7,cO 24 (ixaS 2 (t 22) (t 23)),bJ 25 2 24,cO 9 (alloc (AV.agg [aY,aY])),bU 2 9 25] (ab [aa 26 2,bJ 27 2 8,bJ 28 2 9,cO 29 (call (t 26) [t 27,t 28]),aa 10 29] (ab [aa 30 10,ay 31 .neq 30 0] (aA 31 (ab [aa 32 10,aa 6 32] ret) skip))))))).seq (ops 0 [ay 33 .add 13 1,aa 13 33])))).loop)).seq ((ab [aa 34 0,bi 35 34,aa 36 1,bi 37 36,aR 38 .lss 35 37] (aA 38 (ab [cO 6 (mov (cN ((-1))))] ret) skip)).seq (ab [cO 6 (mov (cN 0))] ret)))))
theorem Ia:Is Tryz.prog 62 b62:=mkI Tryz.func62
def b63:F2:=(F2.mk 17 [RV.t 4] (ab [cO 2 (box (t 0)),cO 3 (box (t 1)),cO 4 (mov (cN 0))] ((mixS 1 [cH 5 0 2,aK 6 5,cH 7 0 3,aK 8 7,aN 9 86 [t 6,t 8],cH 10 1 2,aK 11 10,cH 12 1 3,aK 13 12,aN 14 86 [t 11,t 13],cO 15 (bldS 1 2 [aY] [(0,1,t 9),(1,1,t 14)]),aN 16 85 [t 15],aa 4 16] [(0,0),(1,0),(2,0),(3,0),(5,0),(6,0),(7,0),(8,0),(4,1),(9,2),(10,2),(11,2),(12,0)]).seq ret)))
theorem Iw:Is Tryz.prog 63 b63:=mkI Tryz.func63
def b64:F2:=(F2.mk 5 [RV.t 2] (ab [cO 2 (mov (c AV.esl))] (ab [aa 3 0,aN 4 87 [c AV.esl,t 3],aa 2 4] ret)))
theorem JF:Is Tryz.prog 64 b64:=mkI Tryz.func64
def b65:F2:=(F2.mk 7 [RV.t 2] (ab [cO 1 (box (t 0)),cO 2 (mov (c AV.nilf))] (ab [bJ 4 1 1,aN 5 88 [t 4],cO 3 (alloc AV.nilm),bU 1 3 5] (ab [cO 6 (mkfn 89 [t 1,t 3]),aa 2 6] ret))))
theorem JR:Is Tryz.prog 65 b65:=mkI Tryz.func65
def b66:F2:=(F2.mk 14 [] (ab [aa 5 0,bi 6 5,aa 4 6] (ops 0 [aa 7 0,aa 8 4,aa 9 4,cO 10 (conv IntKind.u64 (t 9)),aN 11 79 [t 10],aa 12 1,aN 13 92 ([t 7,cN ((0)),t 8,t 11,t 12])])))
theorem Kz:Is Tryz.prog 66 b66:=mkI Tryz.func66
def b68:F2:=(F2.mk 6 [RV.t 2] (ab [cO 2 (mov bk)] (ab [aa 3 0,bi 4 3,ay 5 .leq 4 10,aa 2 5] ret)))
theorem Ke:Is Tryz.prog 68 b68:=mkI Tryz.func68
def b69:F2:=(F2.mk 21 [RV.t 2] (ab [cO 1 (box (t 0)),cO 2 (mov bk)] (ab [cH 3 0 1,aK 4 3,ay 5 .geq 4 0,aa 6 5,ap 7 6 (fa 0 (t 1)),ap 8 6 (cD 7),ap 9 6 (cB .lss (t 8) (cN 8)),cO 10 (pick (t 6) (t 9) bk),aa 11 10,ap 12 11 (fa 1 (t 1)),ap 13 11 (cD 12),ap 14 11 (cB .geq (t 13) (cN 0)),cO 15 (pick (t 11) (t 14) bk),aa 16 15,ap 17 16 (fa 1 (t 1)),ap 18 16 (cD 17),ap 19 16 (cB .leq (t 18) (cN 1048576)),cO 20 (pick (t 16) (t 19) bk),aa 2 20] ret)))
theorem Ks:Is Tryz.prog 69 b69:=mkI Tryz.func69
def b70:F2:=(F2.mk 29 [RV.t 4] (ab [cO 2 (box (t 0)),cO 3 (box (t 1)),cO 4 (mov (cN 0))] ((block 0 (ab [cH 6 0 2,aK 7 6,cH 8 0 3,aK 9 8,aR 10 .lss 7 9,aa 5 10] (aA 5 (ab [cO 4 (mov (cN ((-1))))] ret) (ab [cH 12 0 2,aK 13 12,cH 14 0 3,aK 15 14,aR 16 .gtr 13 15,aa 11 16] (aA 11 (ab [cO 4 (mov (cN 1))] ret) (ab [cH 18 1 2,aK 19 18,cH 20 1 3,aK 21 20,aR 22 .lss 19 21,aa 17 22] (aA 17 (ab [cO 4 (mov (cN ((-1))))] ret) (ab [cH 24 1 2,aK 25 24,cH 26 1 3,aK 27 26,aR 28 .gtr 25 27,aa 23 28] (aA 23 (ab [cO 4 (mov (cN 1))] ret) skip))))))))).seq (ab [cO 4 (mov (cN 0))] ret))))
theorem KA:Is Tryz.prog 70 b70:=mkI Tryz.func70
def b71:F2:=(F2.mk 18 [RV.t 4] (ab [cO 3 (box (t 1)),cO 4 (mov bk)] ((ab [cO 5 (mov (cN 0))] (block 0 ((ab [aa 6 5,aa 7 0,bi 8 7,aR 9 .lss 6 8] (aA 9 skip (exit 0))).seq ((block 1 ((ops 1 [aa 12 0,aa 13 5,cO 14 (ixaS 2 (t 12) (t 13)),bJ 15 2 14,bJ 16 2 3,cO 17 (binS BinOp.eql [int,int] (t 15) (t 16))]).seq (aA 17 (ab [cO 4 (mov ff)] ret) skip))).seq (ops 0 [aa 10 5,ay 11 .add 10 1,aa 5 11]))).loop)).seq (ab [cO 4 (mov bk)] ret))))
theorem JN:Is Tryz.prog 71 b71:=mkI Tryz.func71
def b72:F2:=(F2.mk 21 [RV.t 2] (ab [cO 1 (box (t 0)),cO 2 (mov bk)] (ab [cH 3 0 1,aK 4 3,ay 5 .geq 4 0,aa 6 5,ap 7 6 (fa 0 (t 1)),ap 8 6 (cD 7),ap 9 6 (cB .lss (t 8) (cN 8)),cO 10 (pick (t 6) (t 9) bk),aa 11 10,ap 12 11 (fa 1 (t 1)),ap 13 11 (cD 12),ap 14 11 (cB .geq (t 13) (cN 0)),cO 15 (pick (t 11) (t 14) bk),aa 16 15,ap 17 16 (fa 1 (t 1)),ap 18 16 (cD 17),ap 19 16 (cB .leq (t 18) (cN 1048576)),cO 20 (pick (t 16) (t 19) bk),aa 2 20] ret)))
theorem IY:Is Tryz.prog 72 b72:=mkI Tryz.func72
def b73:F2:=(F2.mk 9 [RV.t 4] (ab [cO 4 (mov bk)] (ab [aa 5 0,aa 6 1,aN 7 93 [t 5,t 6],ay 8 .geq 7 0,aa 4 8] ret)))
theorem IB:Is Tryz.prog 73 b73:=mkI Tryz.func73
def b74:F2:=(F2.mk 21 [RV.t 4] (ab [cO 4 (mov bk)] ((mixS 1 [aK 5 1,aa 6 0,cO 7 (ixaS 1 (t 5) (t 6)),aK 8 7,bi 9 8,aK 10 2,bi 11 10,aR 12 .gtr 9 11,aa 13 12,ap 14 13 (cD 2),ap 15 13 (cD 1),ap 16 13 (cM 0),ap 17 13 (ixaS 1 (t 15) (t 16)),ap 18 13 (cD 17),ap 19 13 (call (cF 75) [t 14,t 18]),cO 20 (pick (t 13) (t 19) bk),aa 4 20] [(0,0),(1,0),(2,0),(3,0),(4,0),(5,0),(6,0),(7,0),(8,0),(9,0),(10,0),(11,0),(12,0),(13,0),(14,2),(15,0),(16,0)]).seq ret)))
theorem H7:Is Tryz.prog 74 b74:=mkI Tryz.func74
def b75:F2:=(F2.mk 29 [RV.t 4] (ab [cO 4 (mov bk)] ((ab [aa 7 0,bi 8 7,cO 9 (mov (cN 0))] (block 0 (ab [aR 10 .lss 9 8] ((aA 10 skip (exit 0)).seq ((block 1 (ab [cO 11 (ixaS 2 (t 7) (t 9)),bJ 12 2 11,cO 6 (alloc (AV.agg [aY,aY])),bU 2 6 12] ((block 2 (((ops 1 [aa 13 1,bi 14 13,ay 15 .gtr 14 0,aa 16 15,ap 17 16 (cM 1),ap 18 16 (ixaS 2 (t 17) (cN 0)),ap 19 16 (ldn 2 (t 18)),ap 20 16 (ldn 2 (t 6)),ap 21 16 (binS BinOp.neq [int,int] (t 19) (t 20)),cO 22 (pick (t 16) (t 21) bk)]).seq (aA 22 skip (exit 2))).seq (block 3 (ops 0 [aa 23 1,cO 24 (sls 2 (t 23) (some (cN 1)) none none),aa 1 24]))).loop).seq (ab [aa 25 1,bi 26 25,ay 27 .eql 26 0] (aA 27 (ab [cO 4 (mov bk)] ret) skip))))).seq (ops 0 [ay 28 .add 9 1,aa 9 28])))).loop)).seq (ab [cO 4 (mov ff)] ret))))
theorem JJ:Is Tryz.prog 75 b75:=mkI Tryz.func75
def b76:F2:=(F2.mk 5 [RV.t 2] (ab [cO 2 (mov (c AV.esl))] (ab [aa 3 0,aN 4 94 [c AV.esl,t 3],aa 2 4] ret)))
theorem IS:Is Tryz.prog 76 b76:=mkI Tryz.func76
def b77:F2:=(F2.mk 6 [RV.t 4] (ab [cO 2 (box (t 0)),cO 3 (box (t 1)),cO 4 (mov (c AV.nilf))] (ab [cO 5 (mkfn 95 [t 3,t 2]),aa 4 5] ret)))
theorem IZ:Is Tryz.prog 77 b77:=mkI Tryz.func77
def b78:F2:=(F2.mk 148 [] (ab [cO 10 (mov ff)] (ab [cO 11 (mov ff)] (block 0 (block 1 (ab [aa 21 2,aa 22 1,aR 23 .sub 21 22,aa 12 23] ((ab [aa 24 12,ay 25 .leq 24 12] (aA 25 (ab [aa 26 0,aa 27 1,aa 28 2,aa 29 4,aN 30 97 [t 26,t 27,t 28,t 29]] ret) skip)).seq ((ab [aa 31 3,ay 32 .eql 31 0] (aA 32 (ab [aa 33 0,aa 34 1,aa 35 2,aa 36 4,aN 37 98 [t 33,t 34,t 35,t 36]] ret) skip)).seq ((ab [aa 38 10,cO 39 (un UnOp.not (t 38))] (aA 39 (ab [aa 40 0,aa 41 1,aa 42 2,aa 43 4,aN 44 99 [t 40,t 41,t 42,t 43]] (ops 0 [aa 45 3,ay 46 .sub 45 1,aa 3 46])) skip)).seq (ab [aa 48 0,aa 49 1,aa 50 2,aa 51 4,aN 52 100 [t 48,t 49,t 50,t 51],aa 47 52,a8 53 47 0,a8 54 47 1,aa 13 53,aa 14 54] ((ab [aa 55 14,ay 56 .eql 55 2] (aA 56 (ab [aa 57 0,aa 58 1,aa 59 2,aa 60 4,aN 61 101 [t 57,t 58,t 59,t 60]] (ab [aa 62 2,ay 63 .sub 62 1,aa 64 13,aa 65 1,aR 66 .sub 64 65,aR 67 .sub 63 66,aa 13 67] (ops 0 [cO 14 (mov (cN 1))]))) skip)).seq ((ab [aa 68 10,aa 69 68,ap 70 69 (cM 11),cO 71 (pick (t 69) (t 70) bk),aa 72 71,ap 73 72 (cM 14),ap 74 72 (cB .eql (t 73) (cN 1)),cO 75 (pick (t 72) (t 74) bk)] (aA 75 (ab [aa 76 0,aa 77 1,aa 78 2,aa 79 4,aN 80 102 [t 76,t 77,t 78,t 79]] (aA 80 ret skip)) skip)).seq (((mixS 1 [aa 81 1,ay 82 .gtr 81 0,aa 83 82,ap 84 83 (cM 4),ap 85 83 (cM 0),ap 86 83 (cM 1),ap 87 83 (cB .sub (t 86) (cN 1)),ap 88 83 (ixaS 1 (t 85) (t 87)),ap 89 83 (cD 88),ap 90 83 (cM 0),ap 91 83 (cM 13),ap 92 83 (ixaS 1 (t 90) (t 91)),ap 93 83 (cD 92),ap 94 83 (call (t 84) [t 89,t 93]),ap 95 83 (cB .lss (t 94) (cN 0)),ap 96 83 (un UnOp.not (t 95)),cO 97 (pick (t 83) (t 96) bk)] [(0,0),(1,0),(2,0),(3,0),(4,0),(5,0),(6,0),(7,0),(8,0),(9,0),(10,0),(11,0),(12,0),(13,2),(14,0),(15,0),(16,0)]).seq (aA 97 (ab [aa 98 0,aa 99 1,aa 100 2,aa 101 13,aa 102 4,aN 103 103 [t 98,t 99,t 100,t 101,t 102],aa 15 103] (ab [aa 104 15,aa 1 104] (exit 1))) skip)).seq (ab [aa 106 0,aa 107 1,aa 108 2,aa 109 13,aa 110 4,aN 111 104 [t 106,t 107,t 108,t 109,t 110],aa 105 111,a8 112 105 0,a8 113 105 1,aa 16 112,aa 17 113] (ab [aa 114 17,aa 11 114] (ab [aa 115 16,aa 116 1,aR 117 .sub 115 116,aa 118 2,aa 119 16,aR 120 .sub 118 119,aa 18 117,aa 19 120] (ab [aa 121 12,ay 122 .quo 121 8,aa 20 122] (ab [aa 123 18,aa 124 19,aR 125 .lss 123 124] (aA 125 (ab [aa 126 18,aa 127 20,aR 128 .geq 126 127,aa 10 128] (ab [aa 129 0,aa 130 1,aa 131 16,aa 132 3,aa 133 4,aN 134 78 [t 129,t 130,t 131,t 132,t 133]] (ops 0 [aa 135 16,ay 136 .add 135 1,aa 1 136]))) (ab [aa 137 19,aa 138 20,aR 139 .geq 137 138,aa 10 139] (ab [aa 140 0,aa 141 16,ay 142 .add 141 1,aa 143 2,aa 144 3,aa 145 4,aN 146 78 [t 140,t 142,t 143,t 144,t 145]] (ops 0 [aa 147 16,aa 2 147])))))))))))))))))).loop))))
theorem I9:Is Tryz.prog 78 b78:=mkI Tryz.func78
def b79:F2:=(F2.mk 8 [RV.t 2] (ab [cO 2 (mov (cN 0))] ((C2.cond bk (ab [aa 3 0,cO 4 (conv IntKind.u32 (t 3)),aN 5 105 [t 4],aa 2 5] ret) skip).seq (ab [aa 6 0,aN 7 106 [t 6],aa 2 7] ret))))
theorem GW:Is Tryz.prog 79 b79:=mkI Tryz.func79
def b80:F2:=(F2.mk 27 [RV.t 4] (ab [cO 4 (mov (c AV.esl))] ((ab [aa 5 1,ay 6 .lss 5 0] (aA 6 (ops 0 [cO 7 dead,Op2.mk none none dead]) skip)).seq ((ab [aa 8 1,aa 9 0,cO 10 (capE (t 9)),aa 11 0,bi 12 11,aR 13 .sub 10 12,aR 14 .sub 8 13,aa 1 14] (ab [aa 15 1,ay 16 .gtr 15 0] (aA 16 (ops 0 [aa 17 0,aa 18 0,cO 19 (capE (t 18)),cO 20 (sls 2 (t 17) none (some (t 19)) none),aa 21 1,cO 22 (apz 2 16 [aY,aY] (t 20) (t 21)),aa 23 0,bi 24 23,cO 25 (sls 2 (t 22) none (some (t 24)) none),aa 0 25]) skip))).seq (ab [aa 26 0,aa 4 26] ret)))))
theorem Ka:Is Tryz.prog 80 b80:=mkI Tryz.func80
def b81:F2:=(F2.mk 38 [RV.cn 3 2] (ab [cO 2 (box (t 0)),cO 3 (alloc (AV.agg [AV.esl,AV.esl]))] ((ab [cO 4 (mov (cN 0))] (block 0 ((ab [aa 7 4,cH 8 0 2,aK 9 8,bi 10 9,aR 11 .lss 7 10] (aA 11 skip (exit 0))).seq (block 1 ((mixS 9 [aK 13 1,cH 14 0 2,aK 15 14,aa 16 4,cO 17 (ixaS 1 (t 15) (t 16)),aK 18 17,cO 19 (Ins.mget (one int) (AV.agg [AV.esl,AV.esl]) true (t 13) (t 18)),aa 12 19,a8 20 12 0,a8 21 12 1,cO 5 (alloc (AV.agg [AV.esl,AV.esl])),bU 2 5 20,aa 6 21] [(0,0),(1,0),(2,0),(3,0),(4,0),(5,0),(6,4),(7,0),(8,0),(9,0),(10,1),(11,2),(12,0)]).seq ((ab [aa 22 6,cO 23 (un UnOp.not (t 22))] (aA 23 (ab [aa 24 4,ay 25 .add 24 1,aa 4 25] (exit 1)) skip)).seq (mixS 1 [cH 26 0 2,aK 27 26,cH 28 0 5,aK 29 28,aN 30 82 [t 27,t 29],cH 31 1 2,aK 32 31,cH 33 1 5,aK 34 33,aN 35 82 [t 32,t 34],cO 36 (bld [AV.esl,AV.esl] [(0,1,t 30),(1,1,t 35)]),bU 2 2 36] [(0,0),(1,0),(2,0),(3,0),(5,0),(6,0),(7,0),(8,0),(4,1),(9,2),(10,0),(11,2)]))))).loop)).seq (ab [bJ 37 2 2,bU 2 3 37] ret))))
theorem JI:Is Tryz.prog 81 b81:=mkI Tryz.func81
def b82:F2:=(F2.mk 61 [RV.t 4] (ab [cO 4 (mov (c AV.esl))] (ab [aa 6 0,bi 7 6,aa 8 1,bi 9 8,aR 10 .add 7 9,cO 11 (mks 1 8 [aY] (cN 0) (t 10)),aa 5 11] ((block 0 ((ab [aa 12 0,bi 13 12,ay 14 .gtr 13 0,aa 15 14,ap 16 15 (cM 1),ap 17 15 (lenS (t 16)),ap 18 15 (cB .gtr (t 17) (cN 0)),cO 19 (pick (t 15) (t 18) bk)] (aA 19 skip (exit 0))).seq (block 1 (block 2 ((ops 1 [aa 25 0,cO 26 (ixaS 1 (t 25) (cN 0)),aK 27 26,aa 28 1,cO 29 (ixaS 1 (t 28) (cN 0)),aK 30 29,aR 31 .lss 27 30,aa 24 31]).seq (aA 24 (ops 1 [aa 32 5,aa 33 0,cO 34 (ixaS 1 (t 33) (cN 0)),aK 35 34,cO 36 (bldS 1 1 [aY] [(0,1,t 35)]),cO 37 (app 1 8 (t 32) (t 36)),aa 38 0,cO 39 (sls 1 (t 38) (some (cN 1)) none none),aa 5 37,aa 0 39]) ((ops 1 [aa 41 0,cO 42 (ixaS 1 (t 41) (cN 0)),aK 43 42,aa 44 1,cO 45 (ixaS 1 (t 44) (cN 0)),aK 46 45,aR 47 .gtr 43 46,aa 40 47]).seq (aA 40 (ops 1 [aa 48 5,aa 49 1,cO 50 (ixaS 1 (t 49) (cN 0)),aK 51 50,cO 52 (bldS 1 1 [aY] [(0,1,t 51)]),cO 53 (app 1 8 (t 48) (t 52)),aa 54 1,cO 55 (sls 1 (t 54) (some (cN 1)) none none),aa 5 53,aa 1 55]) (ops 1 [aa 20 0,cO 21 (sls 1 (t 20) (some (cN 1)) none none),aa 22 1,cO 23 (sls 1 (t 22) (some (cN 1)) none none),aa 0 21,aa 1 23])))))))).loop).seq (ab [aa 56 5,aa 57 0,cO 58 (app 1 8 (t 56) (t 57)),aa 59 1,cO 60 (app 1 8 (t 58) (t 59)),aa 4 60] ret)))))
theorem Kg:Is Tryz.prog 82 b82:=mkI Tryz.func82
def b83:F2:=(F2.mk 8 [RV.t 2] (ab [cO 2 (mov (c AV.esl))] ((ab [aa 3 0,cO 4 (snil false (t 3))] (aA 4 (ab [cO 2 (mov (c AV.esl))] ret) skip)).seq (ab [cO 5 (bldS 1 0 [aY] []),aa 6 0,cO 7 (app 1 8 (t 5) (t 6)),aa 2 7] ret))))
theorem Kd:Is Tryz.prog 83 b83:=mkI Tryz.func83
def b84:F2:=(F2.mk 14 [RV.t 4] (ab [cO 4 (mov bk)] (ab [aa 8 0,aa 9 1,aN 10 107 [t 8,t 9],aa 7 10,a8 11 7 0,a8 12 7 1,aa 5 11,aa 6 12] (ab [aa 13 6,aa 4 13] ret))))
theorem JY:Is Tryz.prog 84 b84:=mkI Tryz.func84
def b85:F2:=(F2.mk 18 [RV.t 2] (ab [cO 2 (mov (cN 0))] (ab [cO 3 (mov (cN 0))] ((ab [aa 6 0,bi 7 6,cO 8 (mov (cN 0))] (block 0 (ab [aR 9 .lss 8 7] ((aA 9 skip (exit 0)).seq ((block 1 (ab [cO 10 (ixaS 1 (t 6) (t 8)),aK 11 10,aa 5 11] (ab [aa 12 5,aa 13 3,aR 14 .neq 12 13] (aA 14 (ab [aa 15 5,aa 2 15] ret) skip)))).seq (ops 0 [ay 16 .add 8 1,aa 8 16])))).loop)).seq (ab [aa 17 3,aa 2 17] ret)))))
theorem Jp:Is Tryz.prog 85 b85:=mkI Tryz.func85
def b86:F2:=(F2.mk 20 [RV.t 4] (ab [cO 4 (mov (cN 0))] (ab [aa 7 0,aN 8 108 [t 7],aa 5 8] (ab [aa 9 1,aN 10 108 [t 9],aa 6 10] ((ab [aa 11 5] (aA 11 ((ab [aa 12 6] (aA 12 (ab [cO 4 (mov (cN 0))] ret) skip)).seq (ab [cO 4 (mov (cN ((-1))))] ret)) skip)).seq ((ab [aa 13 6] (aA 13 (ab [cO 4 (mov (cN 1))] ret) skip)).seq ((ab [aa 14 0,aa 15 1,aR 16 .lss 14 15] (aA 16 (ab [cO 4 (mov (cN ((-1))))] ret) skip)).seq ((ab [aa 17 0,aa 18 1,aR 19 .gtr 17 18] (aA 19 (ab [cO 4 (mov (cN 1))] ret) skip)).seq (ab [cO 4 (mov (cN 0))] ret)))))))))
theorem Io:Is Tryz.prog 86 b86:=mkI Tryz.func86
def b87:F2:=(F2.mk 13 [RV.t 4] (ab [cO 2 (box (t 0)),cO 4 (mov (c AV.esl))] ((ab [aa 6 1] (block 0 (rangeF (t 6) [7] (ops 0 [cO 5 (alloc (AV.agg [AV.esl,AV.esl])),bU 2 5 7]) (block 1 (ops 0 [aK 8 2,bJ 9 2 5,cO 10 (bldS 2 1 [AV.esl,AV.esl] [(0,2,t 9)]),cO 11 (app 2 48 (t 8) (t 10)),bU 1 2 11]))))).seq (ab [aK 12 2,aa 4 12] ret))))
theorem J6:Is Tryz.prog 87 b87:=mkI Tryz.func87
def b88:F2:=(F2.mk 82 [RV.t 2] (ab [cO 1 (box (t 0)),cO 2 (mov (c AV.nilm))] (ab [cO 16 (mkm none),aa 3 16] ((ab [cH 17 0 1,aK 18 17,bi 19 18,cO 20 (mov (cN 0))] (block 0 (ab [aR 21 .lss 20 19] ((aA 21 skip (exit 0)).seq ((block 1 (ab [cO 22 (ixaS 1 (t 18) (t 20)),aK 23 22,aa 5 23] (ab [aa 24 5,bi 25 24,cO 26 (mov (cN 0))] (block 2 (ab [aR 27 .lss 26 25] ((aA 27 skip (exit 2)).seq ((block 3 (ab [aa 28 26,aa 6 28] (ab [aa 29 5,bi 30 29,ay 31 .gtr 30 1] (aA 31 (ops 0 [aa 32 3,aa 33 5,aa 34 6,aN 35 90 [t 33,t 34],aN 36 91 [t 35],Op2.mk none none (mput (MK.st [int,int,int,int,int,int,int,int,int,int,int,int,int,int,int,int]) (t 32) (t 36) (cN 0))]) skip)))).seq (ops 0 [ay 37 .add 26 1,aa 26 37])))).loop)))).seq (ops 0 [ay 38 .add 20 1,aa 20 38])))).loop)).seq ((ab [cH 39 0 1,aK 40 39,bi 41 40,cO 42 (mov (cN 0))] (block 4 (ab [aR 43 .lss 42 41] ((aA 43 skip (exit 4)).seq ((block 5 (ab [cO 44 (ixaS 1 (t 40) (t 42)),aK 45 44,aa 8 45] (ab [cO 9 (mov (cN 1))] (block 6 ((ab [aa 46 9,aa 47 8,bi 48 47,aR 49 .lss 46 48] (aA 49 skip (exit 6))).seq ((block 7 (ab [aa 53 8,aa 54 9,aN 55 48 [t 53,t 54],aa 52 55,a8 56 52 0,a8 57 52 1,aa 10 56,aa 11 57] (ab [aa 58 10,bi 59 58,cO 60 (mov (cN 0))] (block 8 (ab [aR 61 .lss 60 59] ((aA 61 skip (exit 8)).seq ((block 9 (ab [cO 62 (ixaS 1 (t 58) (t 60)),aK 63 62,aa 13 63] (ab [aa 65 3,aa 66 13,aN 67 91 [t 66],cO 68 (Ins.mget (MK.st [int,int,int,int,int,int,int,int,int,int,int,int,int,int,int,int]) (aY) true (t 65) (t 67)),aa 64 68,a8 69 64 0,a8 70 64 1,aa 14 69,aa 15 70] (ab [aa 71 15] (aA 71 (mixS 9 [aa 72 3,aa 73 13,aN 74 91 [t 73],cO 75 (Ins.mget (MK.st [int,int,int,int,int,int,int,int,int,int,int,int,int,int,int,int]) (aY) false (t 72) (t 74)),ay 76 .add 75 1,cO 77 (mplc (MK.st [int,int,int,int,int,int,int,int,int,int,int,int,int,int,int,int]) (aY) (t 72) (t 74)),a8 78 77 1,Op2.mk none none (mpst (t 72) (t 78) (t 76))] [(0,0),(1,0),(2,1),(3,4),(4,0),(5,1),(6,0),(7,2)]) skip))))).seq (ops 0 [ay 79 .add 60 1,aa 60 79])))).loop)))).seq (ops 0 [aa 50 9,ay 51 .add 50 1,aa 9 51]))).loop)))).seq (ops 0 [ay 80 .add 42 1,aa 42 80])))).loop)).seq (ab [aa 81 3,aa 2 81] ret))))))
theorem JO:Is Tryz.prog 88 b88:=mkI Tryz.func88
def b89:F2:=(F2.mk 42 [] (ab [cH 8 0 1,aK 9 8,bi 10 9,cO 11 (mov (cN 0))] (block 0 (ab [aR 12 .lss 11 10] ((aA 12 skip (exit 0)).seq ((block 1 (ab [cO 13 (ixaS 1 (t 9) (t 11)),aK 14 13,aa 5 14] (ab [aa 15 5,bi 16 15,cO 17 (mov (cN 0))] (block 2 (ab [aR 18 .lss 17 16] ((aA 18 skip (exit 2)).seq ((block 3 (ab [aa 19 17,aa 6 19] ((ab [aa 20 5,bi 21 20,ay 22 .eql 21 1] (aA 22 (exit 3) skip)).seq (ab [aa 23 5,aa 24 6,aN 25 90 [t 23,t 24],aa 7 25] ((mixS 9 [aK 26 2,aa 27 7,aN 28 91 [t 27],cO 29 (Ins.mget (MK.st [int,int,int,int,int,int,int,int,int,int,int,int,int,int,int,int]) (aY) false (t 26) (t 28)),ay 30 .eql 29 1,aa 31 30,ap 32 31 (cM 0),ap 33 31 (cM 7),ap 34 31 (cM 5),ap 35 31 (call (cF 57) [t 34]),ap 36 31 (bld [AV.esl,AV.esl] [(0,1,t 33),(1,1,t 35)]),ap 37 31 (call (t 32) [t 36]),ap 38 31 (un UnOp.not (t 37)),cO 39 (pick (t 31) (t 38) bk)] [(0,0),(1,0),(2,1),(3,2),(4,0),(5,0),(6,0),(7,0),(8,0),(9,2),(10,0),(11,2),(12,0),(13,0)]).seq (aA 39 ret skip)))))).seq (ops 0 [ay 40 .add 17 1,aa 17 40])))).loop)))).seq (ops 0 [ay 41 .add 11 1,aa 11 41])))).loop)))
theorem J8:Is Tryz.prog 89 b89:=mkI Tryz.func89
def b90:F2:=(F2.mk 11 [RV.t 4] (ab [cO 4 (mov (c AV.esl))] (ab [aa 5 0,aN 6 57 [t 5],aa 7 1,aa 8 1,ay 9 .add 8 1,aN 10 109 [t 6,t 7,t 9],aa 4 10] ret)))
theorem Kj:Is Tryz.prog 90 b90:=mkI Tryz.func90
def b91:F2:=(F2.mk 16 [RV.cn 2 16] (ab [cO 2 (alloc (AV.agg [aY,aY,aY,aY,aY,aY,aY,aY,aY,aY,aY,aY,aY,aY,aY,aY]))] (ab [cO 3 (alloc (AV.agg [aY,aY,aY,aY,aY,aY,aY,aY,aY,aY,aY,aY,aY,aY,aY,aY]))] ((ab [cO 5 (mov (cN 0))] (block 0 (ab [ay 6 .lss 5 8] ((aA 6 skip (exit 0)).seq ((block 1 (ab [aa 7 5,aa 4 7] (ops 0 [aa 8 4,cO 9 (bld [aY,aY] [(0,1,cN ((-1)))]),cO 10 (ixaA 8 2 (t 3) (t 8)),bU 2 10 9]))).seq (ops 0 [ay 11 .add 5 1,aa 5 11])))).loop)).seq (ab [cO 12 (slp 8 2 (t 3)),aa 13 0,cO 14 (cpy 2 (t 12) (t 13))] (ab [bJ 15 16 3,bU 16 2 15] ret))))))
theorem Kl:Is Tryz.prog 91 b91:=mkI Tryz.func91
def b92:F2:=(F2.mk 148 [] (ab [cO 10 (mov ff)] (ab [cO 11 (mov ff)] (block 0 (block 1 (ab [aa 21 2,aa 22 1,aR 23 .sub 21 22,aa 12 23] ((ab [aa 24 12,ay 25 .leq 24 12] (aA 25 (ab [aa 26 0,aa 27 1,aa 28 2,aa 29 4,aN 30 110 [t 26,t 27,t 28,t 29]] ret) skip)).seq ((ab [aa 31 3,ay 32 .eql 31 0] (aA 32 (ab [aa 33 0,aa 34 1,aa 35 2,aa 36 4,aN 37 111 [t 33,t 34,t 35,t 36]] ret) skip)).seq ((ab [aa 38 10,cO 39 (un UnOp.not (t 38))] (aA 39 (ab [aa 40 0,aa 41 1,aa 42 2,aa 43 4,aN 44 112 [t 40,t 41,t 42,t 43]] (ops 0 [aa 45 3,ay 46 .sub 45 1,aa 3 46])) skip)).seq (ab [aa 48 0,aa 49 1,aa 50 2,aa 51 4,aN 52 113 [t 48,t 49,t 50,t 51],aa 47 52,a8 53 47 0,a8 54 47 1,aa 13 53,aa 14 54] ((ab [aa 55 14,ay 56 .eql 55 2] (aA 56 (ab [aa 57 0,aa 58 1,aa 59 2,aa 60 4,aN 61 114 [t 57,t 58,t 59,t 60]] (ab [aa 62 2,ay 63 .sub 62 1,aa 64 13,aa 65 1,aR 66 .sub 64 65,aR 67 .sub 63 66,aa 13 67] (ops 0 [cO 14 (mov (cN 1))]))) skip)).seq ((ab [aa 68 10,aa 69 68,ap 70 69 (cM 11),cO 71 (pick (t 69) (t 70) bk),aa 72 71,ap 73 72 (cM 14),ap 74 72 (cB .eql (t 73) (cN 1)),cO 75 (pick (t 72) (t 74) bk)] (aA 75 (ab [aa 76 0,aa 77 1,aa 78 2,aa 79 4,aN 80 115 [t 76,t 77,t 78,t 79]] (aA 80 ret skip)) skip)).seq (((mixS 1 [aa 81 1,ay 82 .gtr 81 0,aa 83 82,ap 84 83 (cM 4),ap 85 83 (cM 0),ap 86 83 (cM 1),ap 87 83 (cB .sub (t 86) (cN 1)),ap 88 83 (ixaS 2 (t 85) (t 87)),ap 89 83 (ldn 2 (t 88)),ap 90 83 (cM 0),ap 91 83 (cM 13),ap 92 83 (ixaS 2 (t 90) (t 91)),ap 93 83 (ldn 2 (t 92)),ap 94 83 (call (t 84) [t 89,t 93]),ap 95 83 (cB .lss (t 94) (cN 0)),ap 96 83 (un UnOp.not (t 95)),cO 97 (pick (t 83) (t 96) bk)] [(0,0),(1,0),(2,0),(3,0),(4,0),(5,0),(6,0),(7,0),(8,0),(9,0),(10,0),(11,0),(12,0),(13,2),(14,0),(15,0),(16,0)]).seq (aA 97 (ab [aa 98 0,aa 99 1,aa 100 2,aa 101 13,aa 102 4,aN 103 116 [t 98,t 99,t 100,t 101,t 102],aa 15 103] (ab [aa 104 15,aa 1 104] (exit 1))) skip)).seq (ab [aa 106 0,aa 107 1,aa 108 2,aa 109 13,aa 110 4,aN 111 117 [t 106,t 107,t 108,t 109,t 110],aa 105 111,a8 112 105 0,a8 113 105 1,aa 16 112,aa 17 113] (ab [aa 114 17,aa 11 114] (ab [aa 115 16,aa 116 1,aR 117 .sub 115 116,aa 118 2,aa 119 16,aR 120 .sub 118 119,aa 18 117,aa 19 120] (ab [aa 121 12,ay 122 .quo 121 8,aa 20 122] (ab [aa 123 18,aa 124 19,aR 125 .lss 123 124] (aA 125 (ab [aa 126 18,aa 127 20,aR 128 .geq 126 127,aa 10 128] (ab [aa 129 0,aa 130 1,aa 131 16,aa 132 3,aa 133 4,aN 134 92 [t 129,t 130,t 131,t 132,t 133]] (ops 0 [aa 135 16,ay 136 .add 135 1,aa 1 136]))) (ab [aa 137 19,aa 138 20,aR 139 .geq 137 138,aa 10 139] (ab [aa 140 0,aa 141 16,ay 142 .add 141 1,aa 143 2,aa 144 3,aa 145 4,aN 146 92 [t 140,t 142,t 143,t 144,t 145]] (ops 0 [aa 147 16,aa 2 147])))))))))))))))))).loop))))
theorem Kn:Is Tryz.prog 92 b92:=mkI Tryz.func92
def b93:F2:=(F2.mk 19 [RV.t 4] (ab [cO 4 (mov (cN 0))] ((ab [aa 6 0,bi 7 6,cO 8 (mov (cN 0))] (block 0 (ab [aR 9 .lss 8 7] ((aA 9 skip (exit 0)).seq ((block 1 (ab [aa 10 8,aa 5 10] (ab [aa 11 1,aa 12 0,aa 13 5,cO 14 (ixaS 1 (t 12) (t 13)),aK 15 14,cO 16 (call (t 11) [t 15])] (aA 16 (ab [aa 17 5,aa 4 17] ret) skip)))).seq (ops 0 [ay 18 .add 8 1,aa 8 18])))).loop)).seq (ab [cO 4 (mov (cN ((-1))))] ret))))
theorem I8:Is Tryz.prog 93 b93:=mkI Tryz.func93
def b94:F2:=(F2.mk 13 [RV.t 4] (ab [cO 2 (box (t 0)),cO 4 (mov (c AV.esl))] ((ab [aa 6 1] (block 0 (rangeF (t 6) [7] (ops 0 [aa 5 7]) (block 1 (ops 0 [aK 8 2,aa 9 5,cO 10 (bldS 1 1 [AV.esl] [(0,1,t 9)]),cO 11 (app 1 24 (t 8) (t 10)),bU 1 2 11]))))).seq (ab [aK 12 2,aa 4 12] ret))))
theorem Ic:Is Tryz.prog 94 b94:=mkI Tryz.func94
def b95:F2:=(F2.mk 10 [] (ab [cO 3 (box (t 0))] (ab [cO 4 (alloc AV.nilf)] (ab [cO 5 (mkfn 96 [t 1,t 3,t 2,t 4]),bU 1 4 5] (mixS 1 [aK 6 4,aK 7 1,cO 8 (mks 2 16 [aY,aY] (cN 0) (t 7)),cO 9 (call (t 6) [cN ((0)),t 8])] [(0,0),(1,0),(2,1),(3,2)])))))
theorem Jh:Is Tryz.prog 95 b95:=mkI Tryz.func95
def b96:F2:=(F2.mk 37 [RV.t 8] (ab [cO 8 (mov bk)] ((ab [aa 10 1,bi 11 10,aK 12 2,aR 13 .eql 11 12] (aA 13 ((mixS 1 [aK 14 3,aa 15 1,aN 16 57 [t 15],cO 17 (call (t 14) [t 16]),aa 8 17] [(0,0),(1,0),(2,1),(3,2),(4,0)]).seq ret) skip)).seq ((ab [aa 18 0,aa 9 18] (block 0 ((ab [aa 19 9,aK 20 4,bi 21 20,aR 22 .lss 19 21] (aA 22 skip (exit 0))).seq ((block 1 ((mixS 2 [aK 25 5,aa 26 9,ay 27 .add 26 1,aa 28 1,aK 29 4,aa 30 9,cO 31 (ixaS 2 (t 29) (t 30)),bJ 32 2 31,cO 33 (bldS 2 1 [aY,aY] [(0,2,t 32)]),cO 34 (app 2 16 (t 28) (t 33)),cO 35 (call (t 25) [t 27,t 34]),cO 36 (un UnOp.not (t 35))] [(0,0),(1,0),(2,0),(3,0),(4,0),(5,0),(6,0),(7,0),(8,1),(9,1),(10,2),(11,0)]).seq (aA 36 (ab [cO 8 (mov bk)] ret) skip))).seq (ops 0 [aa 23 9,ay 24 .add 23 1,aa 9 24]))).loop)).seq (ab [cO 8 (mov ff)] ret)))))
theorem Hn:Is Tryz.prog 96 b96:=mkI Tryz.func96
def b97:F2:=(F2.mk 53 [] (ab [aa 10 1,ay 11 .add 10 1,aa 8 11] (block 0 ((ab [aa 12 8,aa 13 2,aR 14 .lss 12 13] (aA 14 skip (exit 0))).seq ((block 1 (ab [aa 17 8,aa 9 17] (block 2 (((mixS 1 [aa 18 9,aa 19 1,aR 20 .gtr 18 19,aa 21 20,ap 22 21 (cM 3),ap 23 21 (cM 0),ap 24 21 (cM 9),ap 25 21 (ixaS 1 (t 23) (t 24)),ap 26 21 (cD 25),ap 27 21 (cM 0),ap 28 21 (cM 9),ap 29 21 (cB .sub (t 28) (cN 1)),ap 30 21 (ixaS 1 (t 27) (t 29)),ap 31 21 (cD 30),ap 32 21 (call (t 22) [t 26,t 31]),ap 33 21 (cB .lss (t 32) (cN 0)),cO 34 (pick (t 21) (t 33) bk)] [(0,0),(1,0),(2,0),(3,0),(4,0),(5,0),(6,0),(7,0),(8,0),(9,0),(10,0),(11,0),(12,0),(13,0),(14,2),(15,0),(16,0)]).seq (aA 34 skip (exit 2))).seq ((block 3 (ops 1 [aa 37 0,aa 38 9,aa 39 0,aa 40 9,ay 41 .sub 40 1,aa 42 0,aa 43 9,ay 44 .sub 43 1,cO 45 (ixaS 1 (t 42) (t 44)),aK 46 45,aa 47 0,aa 48 9,cO 49 (ixaS 1 (t 47) (t 48)),aK 50 49,cO 51 (ixaS 1 (t 37) (t 38)),bU 1 51 46,cO 52 (ixaS 1 (t 39) (t 41)),bU 1 52 50])).seq (ops 0 [aa 35 9,ay 36 .sub 35 1,aa 9 36]))).loop))).seq (ops 0 [aa 15 8,ay 16 .add 15 1,aa 8 16]))).loop)))
theorem IG:Is Tryz.prog 97 b97:=mkI Tryz.func97
def b98:F2:=(F2.mk 60 [] (ab [aa 13 1,aa 8 13] (ab [cO 9 (mov (cN 0))] (ab [aa 14 2,aa 15 1,aR 16 .sub 14 15,aa 10 16] ((ab [aa 17 10,ay 18 .sub 17 1,ay 19 .quo 18 2,aa 11 19] (block 0 ((ab [aa 20 11,ay 21 .geq 20 0] (aA 21 skip (exit 0))).seq ((block 1 (ops 0 [aa 24 0,aa 25 11,aa 26 10,aa 27 8,aa 28 3,aN 29 118 [t 24,t 25,t 26,t 27,t 28]])).seq (ops 0 [aa 22 11,ay 23 .sub 22 1,aa 11 23]))).loop)).seq (ab [aa 30 10,ay 31 .sub 30 1,aa 12 31] (block 2 ((ab [aa 32 12,ay 33 .geq 32 0] (aA 33 skip (exit 2))).seq ((block 3 ((ops 1 [aa 36 0,aa 37 8,aa 38 0,aa 39 8,aa 40 12,aR 41 .add 39 40,aa 42 0,aa 43 8,aa 44 12,aR 45 .add 43 44,cO 46 (ixaS 1 (t 42) (t 45)),aK 47 46,aa 48 0,aa 49 8,cO 50 (ixaS 1 (t 48) (t 49)),aK 51 50,cO 52 (ixaS 1 (t 36) (t 37)),bU 1 52 47,cO 53 (ixaS 1 (t 38) (t 41)),bU 1 53 51]).seq (ops 0 [aa 54 0,aa 55 9,aa 56 12,aa 57 8,aa 58 3,aN 59 118 [t 54,t 55,t 56,t 57,t 58]]))).seq (ops 0 [aa 34 12,ay 35 .sub 34 1,aa 12 35]))).loop)))))))
theorem Ku:Is Tryz.prog 98 b98:=mkI Tryz.func98
def b99:F2:=(F2.mk 67 [] (ab [aa 13 2,aa 14 1,aR 15 .sub 13 14,aa 8 15] (ab [aa 16 8,ay 17 .geq 16 8] (aA 17 (ab [aa 18 8,cO 19 (conv IntKind.u64 (t 18)),cO 9 (alloc (AV.int IntKind.u64 (0))),bU 1 9 19] (ab [aa 20 8,aN 21 119 [t 20],aa 10 21] (ab [aa 22 1,aa 23 8,ay 24 .quo 23 4,ay 25 .mul 24 2,aR 26 .add 22 25,ay 27 .sub 26 1,aa 11 27] (block 0 ((ab [aa 28 11,aa 29 1,aa 30 8,ay 31 .quo 30 4,ay 32 .mul 31 2,aR 33 .add 29 32,ay 34 .add 33 1,aR 35 .leq 28 34] (aA 35 skip (exit 0))).seq ((block 1 (ab [aN 38 120 [t 9],aa 39 10,cO 40 (cB .sub (t 39) (c (AV.int IntKind.u64 (1)))),aR 41 .and 38 40,cO 42 (conv IntKind.i64 (t 41)),aa 12 42] ((ab [aa 43 12,aa 44 8,aR 45 .geq 43 44] (aA 45 (ops 0 [aa 46 12,aa 47 8,aR 48 .sub 46 47,aa 12 48]) skip)).seq (ops 1 [aa 49 0,aa 50 11,aa 51 0,aa 52 1,aa 53 12,aR 54 .add 52 53,aa 55 0,aa 56 1,aa 57 12,aR 58 .add 56 57,cO 59 (ixaS 1 (t 55) (t 58)),aK 60 59,aa 61 0,aa 62 11,cO 63 (ixaS 1 (t 61) (t 62)),aK 64 63,cO 65 (ixaS 1 (t 49) (t 50)),bU 1 65 60,cO 66 (ixaS 1 (t 51) (t 54)),bU 1 66 64])))).seq (ops 0 [aa 36 11,ay 37 .add 36 1,aa 11 37]))).loop)))) skip))))
theorem JT:Is Tryz.prog 99 b99:=mkI Tryz.func99
def II:F2:=(F2.mk 63 [RV.t 8,RV.t 9] (ab [cO 8 (mov (cN 0)),cO 9 (mov (cN 0))] (ab [aa 15 2,aa 16 1,aR 17 .sub 15 16,aa 10 17] (ab [cO 11 (alloc (aY))] (ab [aa 18 1,aa 19 10,ay 20 .quo 19 4,ay 21 .mul 20 1,aR 22 .add 18 21,aa 12 22] (ab [aa 23 1,aa 24 10,ay 25 .quo 24 4,ay 26 .mul 25 2,aR 27 .add 23 26,aa 13 27] (ab [aa 28 1,aa 29 10,ay 30 .quo 29 4,ay 31 .mul 30 3,aR 32 .add 28 31,aa 14 32] ((ab [aa 33 10,ay 34 .geq 33 8] (aA 34 ((ab [aa 35 10,ay 36 .geq 35 50] (aA 36 (ab [aa 37 0,aa 38 12,aa 39 3,aN 40 121 [t 37,t 38,t 11,t 39],aa 12 40] (ab [aa 41 0,aa 42 13,aa 43 3,aN 44 121 [t 41,t 42,t 11,t 43],aa 13 44] (ops 0 [aa 45 0,aa 46 14,aa 47 3,aN 48 121 [t 45,t 46,t 11,t 47],aa 14 48]))) skip)).seq (ops 0 [aa 49 0,aa 50 12,aa 51 13,aa 52 14,aa 53 3,aN 54 122 [t 49,t 50,t 51,t 52,t 11,t 53],aa 13 54])) skip)).seq (ab [aK 55 11] (block 0 (ab [ay 58 .eql 55 0,aa 57 58] (aA 57 (ab [aa 59 13,aa 8 59,cO 9 (mov (cN 1))] ret) (ab [ay 61 .eql 55 12,aa 60 61] (aA 60 (ab [aa 62 13,aa 8 62,cO 9 (mov (cN 2))] ret) (ab [aa 56 13,aa 8 56,cO 9 (mov (cN 0))] ret)))))))))))))))
theorem IH:Is Tryz.prog 100 II:=mkI Tryz.func100
def IU:F2:=(F2.mk 34 [] (ab [aa 10 1,aa 8 10] (ab [aa 11 2,ay 12 .sub 11 1,aa 9 12] (block 0 ((ab [aa 13 8,aa 14 9,aR 15 .lss 13 14] (aA 15 skip (exit 0))).seq (block 1 ((ops 1 [aa 16 0,aa 17 8,aa 18 0,aa 19 9,aa 20 0,aa 21 9,cO 22 (ixaS 1 (t 20) (t 21)),aK 23 22,aa 24 0,aa 25 8,cO 26 (ixaS 1 (t 24) (t 25)),aK 27 26,cO 28 (ixaS 1 (t 16) (t 17)),bU 1 28 23,cO 29 (ixaS 1 (t 18) (t 19)),bU 1 29 27]).seq (ab [aa 30 8,ay 31 .add 30 1,aa 8 31] (ops 0 [aa 32 9,ay 33 .sub 32 1,aa 9 33]))))).loop))))
theorem IJ:Is Tryz.prog 101 IU:=mkI Tryz.func101
def I1:F2:=(F2.mk 141 [RV.t 8] (ab [cO 8 (mov bk)] (ab [aa 13 1,ay 14 .add 13 1,aa 9 14] ((ab [cO 10 (mov (cN 0))] (block 0 ((ab [aa 15 10,ay 16 .lss 15 5] (aA 16 skip (exit 0))).seq ((block 1 ((block 2 (((mixS 1 [aa 19 9,aa 20 2,aR 21 .lss 19 20,aa 22 21,ap 23 22 (cM 3),ap 24 22 (cM 0),ap 25 22 (cM 9),ap 26 22 (ixaS 1 (t 24) (t 25)),ap 27 22 (cD 26),ap 28 22 (cM 0),ap 29 22 (cM 9),ap 30 22 (cB .sub (t 29) (cN 1)),ap 31 22 (ixaS 1 (t 28) (t 30)),ap 32 22 (cD 31),ap 33 22 (call (t 23) [t 27,t 32]),ap 34 22 (cB .lss (t 33) (cN 0)),ap 35 22 (un UnOp.not (t 34)),cO 36 (pick (t 22) (t 35) bk)] [(0,0),(1,0),(2,0),(3,0),(4,0),(5,0),(6,0),(7,0),(8,0),(9,0),(10,0),(11,0),(12,0),(13,0),(14,2),(15,0),(16,0),(17,0)]).seq (aA 36 skip (exit 2))).seq (block 3 (ops 0 [aa 37 9,ay 38 .add 37 1,aa 9 38]))).loop).seq ((ab [aa 39 9,aa 40 2,aR 41 .eql 39 40] (aA 41 (ab [cO 8 (mov ff)] ret) skip)).seq ((ab [aa 42 2,aa 43 1,aR 44 .sub 42 43,ay 45 .lss 44 50] (aA 45 (ab [cO 8 (mov bk)] ret) skip)).seq ((ops 1 [aa 46 0,aa 47 9,aa 48 0,aa 49 9,ay 50 .sub 49 1,aa 51 0,aa 52 9,ay 53 .sub 52 1,cO 54 (ixaS 1 (t 51) (t 53)),aK 55 54,aa 56 0,aa 57 9,cO 58 (ixaS 1 (t 56) (t 57)),aK 59 58,cO 60 (ixaS 1 (t 46) (t 47)),bU 1 60 55,cO 61 (ixaS 1 (t 48) (t 50)),bU 1 61 59]).seq ((ab [aa 62 9,aa 63 1,aR 64 .sub 62 63,ay 65 .geq 64 2] (aA 65 (ab [aa 66 9,ay 67 .sub 66 1,aa 11 67] (block 4 ((ab [aa 68 11,ay 69 .geq 68 1] (aA 69 skip (exit 4))).seq ((block 5 (((mixS 1 [aa 72 3,aa 73 0,aa 74 11,cO 75 (ixaS 1 (t 73) (t 74)),aK 76 75,aa 77 0,aa 78 11,ay 79 .sub 78 1,cO 80 (ixaS 1 (t 77) (t 79)),aK 81 80,cO 82 (call (t 72) [t 76,t 81]),ay 83 .lss 82 0,cO 84 (un UnOp.not (t 83))] [(0,0),(1,0),(2,0),(3,0),(4,0),(5,0),(6,0),(7,0),(8,0),(9,0),(10,2),(11,0),(12,0)]).seq (aA 84 (exit 4) skip)).seq (ops 1 [aa 85 0,aa 86 11,aa 87 0,aa 88 11,ay 89 .sub 88 1,aa 90 0,aa 91 11,ay 92 .sub 91 1,cO 93 (ixaS 1 (t 90) (t 92)),aK 94 93,aa 95 0,aa 96 11,cO 97 (ixaS 1 (t 95) (t 96)),aK 98 97,cO 99 (ixaS 1 (t 85) (t 86)),bU 1 99 94,cO 100 (ixaS 1 (t 87) (t 89)),bU 1 100 98]))).seq (ops 0 [aa 70 11,ay 71 .sub 70 1,aa 11 71]))).loop)) skip)).seq (ab [aa 101 2,aa 102 9,aR 103 .sub 101 102,ay 104 .geq 103 2] (aA 104 (ab [aa 105 9,ay 106 .add 105 1,aa 12 106] (block 6 ((ab [aa 107 12,aa 108 2,aR 109 .lss 107 108] (aA 109 skip (exit 6))).seq ((block 7 (((mixS 1 [aa 112 3,aa 113 0,aa 114 12,cO 115 (ixaS 1 (t 113) (t 114)),aK 116 115,aa 117 0,aa 118 12,ay 119 .sub 118 1,cO 120 (ixaS 1 (t 117) (t 119)),aK 121 120,cO 122 (call (t 112) [t 116,t 121]),ay 123 .lss 122 0,cO 124 (un UnOp.not (t 123))] [(0,0),(1,0),(2,0),(3,0),(4,0),(5,0),(6,0),(7,0),(8,0),(9,0),(10,2),(11,0),(12,0)]).seq (aA 124 (exit 6) skip)).seq (ops 1 [aa 125 0,aa 126 12,aa 127 0,aa 128 12,ay 129 .sub 128 1,aa 130 0,aa 131 12,ay 132 .sub 131 1,cO 133 (ixaS 1 (t 130) (t 132)),aK 134 133,aa 135 0,aa 136 12,cO 137 (ixaS 1 (t 135) (t 136)),aK 138 137,cO 139 (ixaS 1 (t 125) (t 126)),bU 1 139 134,cO 140 (ixaS 1 (t 127) (t 129)),bU 1 140 138]))).seq (ops 0 [aa 110 12,ay 111 .add 110 1,aa 12 111]))).loop)) skip)))))))).seq (ops 0 [aa 17 10,ay 18 .add 17 1,aa 10 18]))).loop)).seq (ab [cO 8 (mov bk)] ret)))))
theorem I6:Is Tryz.prog 102 I1:=mkI Tryz.func102
def Ix:F2:=(F2.mk 90 [RV.t 10] (ab [cO 10 (mov (cN 0))] ((ops 1 [aa 13 0,aa 14 1,aa 15 0,aa 16 3,aa 17 0,aa 18 3,cO 19 (ixaS 1 (t 17) (t 18)),aK 20 19,aa 21 0,aa 22 1,cO 23 (ixaS 1 (t 21) (t 22)),aK 24 23,cO 25 (ixaS 1 (t 13) (t 14)),bU 1 25 20,cO 26 (ixaS 1 (t 15) (t 16)),bU 1 26 24]).seq (ab [aa 27 1,ay 28 .add 27 1,aa 29 2,ay 30 .sub 29 1,aa 11 28,aa 12 30] ((block 0 (block 1 ((block 2 (((mixS 1 [aa 31 11,aa 32 12,aR 33 .leq 31 32,aa 34 33,ap 35 34 (cM 4),ap 36 34 (cM 0),ap 37 34 (cM 1),ap 38 34 (ixaS 1 (t 36) (t 37)),ap 39 34 (cD 38),ap 40 34 (cM 0),ap 41 34 (cM 11),ap 42 34 (ixaS 1 (t 40) (t 41)),ap 43 34 (cD 42),ap 44 34 (call (t 35) [t 39,t 43]),ap 45 34 (cB .lss (t 44) (cN 0)),ap 46 34 (un UnOp.not (t 45)),cO 47 (pick (t 34) (t 46) bk)] [(0,0),(1,0),(2,0),(3,0),(4,0),(5,0),(6,0),(7,0),(8,0),(9,0),(10,0),(11,0),(12,0),(13,2),(14,0),(15,0),(16,0)]).seq (aA 47 skip (exit 2))).seq (block 3 (ops 0 [aa 48 11,ay 49 .add 48 1,aa 11 49]))).loop).seq ((block 4 (((mixS 1 [aa 50 11,aa 51 12,aR 52 .leq 50 51,aa 53 52,ap 54 53 (cM 4),ap 55 53 (cM 0),ap 56 53 (cM 1),ap 57 53 (ixaS 1 (t 55) (t 56)),ap 58 53 (cD 57),ap 59 53 (cM 0),ap 60 53 (cM 12),ap 61 53 (ixaS 1 (t 59) (t 60)),ap 62 53 (cD 61),ap 63 53 (call (t 54) [t 58,t 62]),ap 64 53 (cB .lss (t 63) (cN 0)),cO 65 (pick (t 53) (t 64) bk)] [(0,0),(1,0),(2,0),(3,0),(4,0),(5,0),(6,0),(7,0),(8,0),(9,0),(10,0),(11,0),(12,0),(13,2),(14,0),(15,0)]).seq (aA 65 skip (exit 4))).seq (block 5 (ops 0 [aa 66 12,ay 67 .sub 66 1,aa 12 67]))).loop).seq ((ab [aa 68 11,aa 69 12,aR 70 .gtr 68 69] (aA 70 (exit 0) skip)).seq ((ops 1 [aa 71 0,aa 72 11,aa 73 0,aa 74 12,aa 75 0,aa 76 12,cO 77 (ixaS 1 (t 75) (t 76)),aK 78 77,aa 79 0,aa 80 11,cO 81 (ixaS 1 (t 79) (t 80)),aK 82 81,cO 83 (ixaS 1 (t 71) (t 72)),bU 1 83 78,cO 84 (ixaS 1 (t 73) (t 74)),bU 1 84 82]).seq (ab [aa 85 11,ay 86 .add 85 1,aa 11 86] (ops 0 [aa 87 12,ay 88 .sub 87 1,aa 12 88]))))))).loop).seq (ab [aa 89 11,aa 10 89] ret))))))
theorem Ie:Is Tryz.prog 103 Ix:=mkI Tryz.func103
def Jk:F2:=(F2.mk 178 [RV.t 10,RV.t 11] (ab [cO 10 (mov (cN 0)),cO 11 (mov bk)] ((ops 1 [aa 14 0,aa 15 1,aa 16 0,aa 17 3,aa 18 0,aa 19 3,cO 20 (ixaS 1 (t 18) (t 19)),aK 21 20,aa 22 0,aa 23 1,cO 24 (ixaS 1 (t 22) (t 23)),aK 25 24,cO 26 (ixaS 1 (t 14) (t 15)),bU 1 26 21,cO 27 (ixaS 1 (t 16) (t 17)),bU 1 27 25]).seq (ab [aa 28 1,ay 29 .add 28 1,aa 30 2,ay 31 .sub 30 1,aa 12 29,aa 13 31] ((block 0 (((mixS 1 [aa 32 12,aa 33 13,aR 34 .leq 32 33,aa 35 34,ap 36 35 (cM 4),ap 37 35 (cM 0),ap 38 35 (cM 12),ap 39 35 (ixaS 1 (t 37) (t 38)),ap 40 35 (cD 39),ap 41 35 (cM 0),ap 42 35 (cM 1),ap 43 35 (ixaS 1 (t 41) (t 42)),ap 44 35 (cD 43),ap 45 35 (call (t 36) [t 40,t 44]),ap 46 35 (cB .lss (t 45) (cN 0)),cO 47 (pick (t 35) (t 46) bk)] [(0,0),(1,0),(2,0),(3,0),(4,0),(5,0),(6,0),(7,0),(8,0),(9,0),(10,0),(11,0),(12,0),(13,2),(14,0),(15,0)]).seq (aA 47 skip (exit 0))).seq (block 1 (ops 0 [aa 48 12,ay 49 .add 48 1,aa 12 49]))).loop).seq ((block 2 (((mixS 1 [aa 50 12,aa 51 13,aR 52 .leq 50 51,aa 53 52,ap 54 53 (cM 4),ap 55 53 (cM 0),ap 56 53 (cM 13),ap 57 53 (ixaS 1 (t 55) (t 56)),ap 58 53 (cD 57),ap 59 53 (cM 0),ap 60 53 (cM 1),ap 61 53 (ixaS 1 (t 59) (t 60)),ap 62 53 (cD 61),ap 63 53 (call (t 54) [t 58,t 62]),ap 64 53 (cB .lss (t 63) (cN 0)),ap 65 53 (un UnOp.not (t 64)),cO 66 (pick (t 53) (t 65) bk)] [(0,0),(1,0),(2,0),(3,0),(4,0),(5,0),(6,0),(7,0),(8,0),(9,0),(10,0),(11,0),(12,0),(13,2),(14,0),(15,0),(16,0)]).seq (aA 66 skip (exit 2))).seq (block 3 (ops 0 [aa 67 13,ay 68 .sub 67 1,aa 13 68]))).loop).seq ((ab [aa 69 12,aa 70 13,aR 71 .gtr 69 70] (aA 71 ((ops 1 [aa 72 0,aa 73 13,aa 74 0,aa 75 1,aa 76 0,aa 77 1,cO 78 (ixaS 1 (t 76) (t 77)),aK 79 78,aa 80 0,aa 81 13,cO 82 (ixaS 1 (t 80) (t 81)),aK 83 82,cO 84 (ixaS 1 (t 72) (t 73)),bU 1 84 79,cO 85 (ixaS 1 (t 74) (t 75)),bU 1 85 83]).seq (ab [aa 86 13,aa 10 86,cO 11 (mov ff)] ret)) skip)).seq ((ops 1 [aa 87 0,aa 88 12,aa 89 0,aa 90 13,aa 91 0,aa 92 13,cO 93 (ixaS 1 (t 91) (t 92)),aK 94 93,aa 95 0,aa 96 12,cO 97 (ixaS 1 (t 95) (t 96)),aK 98 97,cO 99 (ixaS 1 (t 87) (t 88)),bU 1 99 94,cO 100 (ixaS 1 (t 89) (t 90)),bU 1 100 98]).seq (ab [aa 101 12,ay 102 .add 101 1,aa 12 102] (ab [aa 103 13,ay 104 .sub 103 1,aa 13 104] ((block 4 (block 5 ((block 6 (((mixS 1 [aa 105 12,aa 106 13,aR 107 .leq 105 106,aa 108 107,ap 109 108 (cM 4),ap 110 108 (cM 0),ap 111 108 (cM 12),ap 112 108 (ixaS 1 (t 110) (t 111)),ap 113 108 (cD 112),ap 114 108 (cM 0),ap 115 108 (cM 1),ap 116 108 (ixaS 1 (t 114) (t 115)),ap 117 108 (cD 116),ap 118 108 (call (t 109) [t 113,t 117]),ap 119 108 (cB .lss (t 118) (cN 0)),cO 120 (pick (t 108) (t 119) bk)] [(0,0),(1,0),(2,0),(3,0),(4,0),(5,0),(6,0),(7,0),(8,0),(9,0),(10,0),(11,0),(12,0),(13,2),(14,0),(15,0)]).seq (aA 120 skip (exit 6))).seq (block 7 (ops 0 [aa 121 12,ay 122 .add 121 1,aa 12 122]))).loop).seq ((block 8 (((mixS 1 [aa 123 12,aa 124 13,aR 125 .leq 123 124,aa 126 125,ap 127 126 (cM 4),ap 128 126 (cM 0),ap 129 126 (cM 13),ap 130 126 (ixaS 1 (t 128) (t 129)),ap 131 126 (cD 130),ap 132 126 (cM 0),ap 133 126 (cM 1),ap 134 126 (ixaS 1 (t 132) (t 133)),ap 135 126 (cD 134),ap 136 126 (call (t 127) [t 131,t 135]),ap 137 126 (cB .lss (t 136) (cN 0)),ap 138 126 (un UnOp.not (t 137)),cO 139 (pick (t 126) (t 138) bk)] [(0,0),(1,0),(2,0),(3,0),(4,0),(5,0),(6,0),(7,0),(8,0),(9,0),(10,0),(11,0),(12,0),(13,2),(14,0),(15,0),(16,0)]).seq (aA 139 skip (exit 8))).seq (block 9 (ops 0 [aa 140 13,ay 141 .sub 140 1,aa 13 141]))).loop).seq ((ab [aa 142 12,aa 143 13,aR 144 .gtr 142 143] (aA 144 (exit 4) skip)).seq ((ops 1 [aa 145 0,aa 146 12,aa 147 0,aa 148 13,aa 149 0,aa 150 13,cO 151 (ixaS 1 (t 149) (t 150)),aK 152 151,aa 153 0,aa 154 12,cO 155 (ixaS 1 (t 153) (t 154)),aK 156 155,cO 157 (ixaS 1 (t 145) (t 146)),bU 1 157 152,cO 158 (ixaS 1 (t 147) (t 148)),bU 1 158 156]).seq (ab [aa 159 12,ay 160 .add 159 1,aa 12 160] (ops 0 [aa 161 13,ay 162 .sub 161 1,aa 13 162]))))))).loop).seq ((ops 1 [aa 163 0,aa 164 13,aa 165 0,aa 166 1,aa 167 0,aa 168 1,cO 169 (ixaS 1 (t 167) (t 168)),aK 170 169,aa 171 0,aa 172 13,cO 173 (ixaS 1 (t 171) (t 172)),aK 174 173,cO 175 (ixaS 1 (t 163) (t 164)),bU 1 175 170,cO 176 (ixaS 1 (t 165) (t 166)),bU 1 176 174]).seq (ab [aa 177 13,aa 10 177,cO 11 (mov bk)] ret)))))))))))))
theorem Iq:Is Tryz.prog 104 Jk:=mkI Tryz.func104
def FR:F2:=(F2.mk 25 [RV.t 2] (ab [cO 2 (mov (cN 0))] ((ab [aa 3 0,cO 4 (cB .geq (t 3) (c (AV.int IntKind.u64 (4294967296))))] (aA 4 (ab [aa 5 0,cO 6 (cB .shr (t 5) (c (AV.int IntKind.u64 (32)))),aa 0 6] (ops 0 [cO 2 (mov (cN 32))])) skip)).seq ((ab [aa 7 0,cO 8 (cB .geq (t 7) (c (AV.int IntKind.u64 (65536))))] (aA 8 (ab [aa 9 0,cO 10 (cB .shr (t 9) (c (AV.int IntKind.u64 (16)))),aa 0 10] (ops 0 [aa 11 2,ay 12 .add 11 16,aa 2 12])) skip)).seq ((ab [aa 13 0,cO 14 (cB .geq (t 13) (c (AV.int IntKind.u64 (256))))] (aA 14 (ab [aa 15 0,cO 16 (cB .shr (t 15) (c (AV.int IntKind.u64 (8)))),aa 0 16] (ops 0 [aa 17 2,ay 18 .add 17 8,aa 2 18])) skip)).seq (ab [aa 19 2,aa 20 0,cO 21 (conv IntKind.u8 (t 20)),cO 22 (ixStr (c (AV.str (ByteArray.mk (Array.mk [0,1,2,2,3,3,3,3,4,4,4,4,4,4,4,4,5,5,5,5,5,5,5,5,5,5,5,5,5,5,5,5,6,6,6,6,6,6,6,6,6,6,6,6,6,6,6,6,6,6,6,6,6,6,6,6,6,6,6,6,6,6,6,6,7,7,7,7,7,7,7,7,7,7,7,7,7,7,7,7,7,7,7,7,7,7,7,7,7,7,7,7,7,7,7,7,7,7,7,7,7,7,7,7,7,7,7,7,7,7,7,7,7,7,7,7,7,7,7,7,7,7,7,7,7,7,7,7,8,8,8,8,8,8,8,8,8,8,8,8,8,8,8,8,8,8,8,8,8,8,8,8,8,8,8,8,8,8,8,8,8,8,8,8,8,8,8,8,8,8,8,8,8,8,8,8,8,8,8,8,8,8,8,8,8,8,8,8,8,8,8,8,8,8,8,8,8,8,8,8,8,8,8,8,8,8,8,8,8,8,8,8,8,8,8,8,8,8,8,8,8,8,8,8,8,8,8,8,8,8,8,8,8,8,8,8,8,8,8,8,8,8,8,8,8,8,8,8,8,8,8,8,8,8,8,8])))) (t 21)),cO 23 (conv IntKind.i64 (t 22)),aR 24 .add 19 23,aa 2 24] ret))))))
theorem Ek:Is Tryz.prog 106 FR:=mkI Tryz.func106
def IT:F2:=(F2.mk 54 [RV.t 4,RV.t 5] (ab [cO 4 (mov (cN 0)),cO 5 (mov bk)] (ab [aa 10 0,bi 11 10,aa 6 11] (ab [aa 12 6,cO 7 (mov (cN 0)),aa 8 12] ((block 0 ((ab [aa 13 7,aa 14 8,aR 15 .lss 13 14] (aA 15 skip (exit 0))).seq (block 1 (ab [aa 16 7,aa 17 8,aR 18 .add 16 17,cO 19 (conv IntKind.u64 (t 18)),cO 20 (cB .shr (t 19) (c (AV.int IntKind.u64 (1)))),cO 21 (conv IntKind.i64 (t 20)),aa 9 21] (ab [aa 22 0,aa 23 9,cO 24 (ixaS 1 (t 22) (t 23)),aK 25 24,aa 26 1,aN 27 123 [t 25,t 26]] (aA 27 (ops 0 [aa 28 9,ay 29 .add 28 1,aa 7 29]) (ops 0 [aa 30 9,aa 8 30])))))).loop).seq (ab [aa 31 7,aa 32 7,aa 33 6,aR 34 .lss 32 33,aa 35 34,ap 36 35 (cM 0),ap 37 35 (cM 7),ap 38 35 (ixaS 1 (t 36) (t 37)),ap 39 35 (cD 38),ap 40 35 (cM 1),ap 41 35 (cB .eql (t 39) (t 40)),ap 42 35 (cM 41),cR 43 42 (cM 0),cR 44 42 (cM 7),cR 45 42 (ixaS 1 (t 43) (t 44)),cR 46 42 (cD 45),cR 47 42 (call (cF 124) [t 46]),cR 48 42 (cM 47),ap 49 48 (cM 1),ap 50 48 (call (cF 124) [t 49]),cR 51 42 (pick (t 48) (t 50) bk),ap 52 35 (pick (t 42) ff (t 51)),cO 53 (pick (t 35) (t 52) bk),aa 4 31,aa 5 53] ret))))))
theorem IM:Is Tryz.prog 107 IT:=mkI Tryz.func107
def GR:F2:=(F2.mk 6 [RV.t 2] (ab [cO 2 (mov bk)] (ab [aa 3 0,aa 4 0,aR 5 .neq 3 4,aa 2 5] ret)))
theorem GB:Is Tryz.prog 108 GR:=mkI Tryz.func108
def I3:F2:=(F2.mk 33 [RV.t 6] (ab [cO 6 (mov (c AV.esl))] (ab [aa 8 0,aa 9 1,aa 10 2,aa 11 0,bi 12 11,cO 13 (sls 2 (t 8) (some (t 9)) (some (t 10)) (some (t 12)))] ((ab [aa 14 1,aa 15 2,aR 16 .eql 14 15] (aA 16 (ab [aa 17 0,aa 6 17] ret) skip)).seq (ab [aa 18 0,bi 19 18,aa 7 19] ((ops 1 [aa 20 0,aa 21 1,cO 22 (sls 2 (t 20) none (some (t 21)) none),aa 23 0,aa 24 2,cO 25 (sls 2 (t 23) (some (t 24)) none none),cO 26 (app 2 16 (t 22) (t 25)),aa 0 26]).seq (ab [aa 27 0,aa 28 0,bi 29 28,aa 30 7,cO 31 (sls 2 (t 27) (some (t 29)) (some (t 30)) none),Op2.mk none none (clr 2 (AV.agg [aY,aY]) (t 31))] (ab [aa 32 0,aa 6 32] ret))))))))
theorem Ii:Is Tryz.prog 109 I3:=mkI Tryz.func109
def HZ:F2:=(F2.mk 53 [] (ab [aa 10 1,ay 11 .add 10 1,aa 8 11] (block 0 ((ab [aa 12 8,aa 13 2,aR 14 .lss 12 13] (aA 14 skip (exit 0))).seq ((block 1 (ab [aa 17 8,aa 9 17] (block 2 (((mixS 1 [aa 18 9,aa 19 1,aR 20 .gtr 18 19,aa 21 20,ap 22 21 (cM 3),ap 23 21 (cM 0),ap 24 21 (cM 9),ap 25 21 (ixaS 2 (t 23) (t 24)),ap 26 21 (ldn 2 (t 25)),ap 27 21 (cM 0),ap 28 21 (cM 9),ap 29 21 (cB .sub (t 28) (cN 1)),ap 30 21 (ixaS 2 (t 27) (t 29)),ap 31 21 (ldn 2 (t 30)),ap 32 21 (call (t 22) [t 26,t 31]),ap 33 21 (cB .lss (t 32) (cN 0)),cO 34 (pick (t 21) (t 33) bk)] [(0,0),(1,0),(2,0),(3,0),(4,0),(5,0),(6,0),(7,0),(8,0),(9,0),(10,0),(11,0),(12,0),(13,0),(14,2),(15,0),(16,0)]).seq (aA 34 skip (exit 2))).seq ((block 3 (ops 1 [aa 37 0,aa 38 9,aa 39 0,aa 40 9,ay 41 .sub 40 1,aa 42 0,aa 43 9,ay 44 .sub 43 1,cO 45 (ixaS 2 (t 42) (t 44)),bJ 46 2 45,aa 47 0,aa 48 9,cO 49 (ixaS 2 (t 47) (t 48)),bJ 50 2 49,cO 51 (ixaS 2 (t 37) (t 38)),bU 2 51 46,cO 52 (ixaS 2 (t 39) (t 41)),bU 2 52 50])).seq (ops 0 [aa 35 9,ay 36 .sub 35 1,aa 9 36]))).loop))).seq (ops 0 [aa 15 8,ay 16 .add 15 1,aa 8 16]))).loop)))
theorem IE:Is Tryz.prog 110 HZ:=mkI Tryz.func110
def HV:F2:=(F2.mk 82 [] (ab [aa 12 1,aa 10 12] (block 0 (block 1 (ab [aa 13 10,cO 14 (cB .mul (cN 2) (t 13)),ay 15 .add 14 1,aa 11 15] ((ab [aa 16 11,aa 17 2,aR 18 .geq 16 17] (aA 18 (exit 0) skip)).seq (((mixS 1 [aa 19 11,ay 20 .add 19 1,aa 21 2,aR 22 .lss 20 21,aa 23 22,ap 24 23 (cM 4),ap 25 23 (cM 0),ap 26 23 (cM 3),ap 27 23 (cM 11),ap 28 23 (cB .add (t 26) (t 27)),ap 29 23 (ixaS 1 (t 25) (t 28)),ap 30 23 (cD 29),ap 31 23 (cM 0),ap 32 23 (cM 3),ap 33 23 (cM 11),ap 34 23 (cB .add (t 32) (t 33)),ap 35 23 (cB .add (t 34) (cN 1)),ap 36 23 (ixaS 1 (t 31) (t 35)),ap 37 23 (cD 36),ap 38 23 (call (t 24) [t 30,t 37]),ap 39 23 (cB .lss (t 38) (cN 0)),cO 40 (pick (t 23) (t 39) bk)] [(0,0),(1,0),(2,0),(3,0),(4,0),(5,0),(6,0),(7,0),(8,0),(9,0),(10,0),(11,0),(12,0),(13,0),(14,0),(15,0),(16,0),(17,0),(18,0),(19,2),(20,0),(21,0)]).seq (aA 40 (ops 0 [aa 41 11,ay 42 .add 41 1,aa 11 42]) skip)).seq (((mixS 1 [aa 43 4,aa 44 0,aa 45 3,aa 46 10,aR 47 .add 45 46,cO 48 (ixaS 1 (t 44) (t 47)),aK 49 48,aa 50 0,aa 51 3,aa 52 11,aR 53 .add 51 52,cO 54 (ixaS 1 (t 50) (t 53)),aK 55 54,cO 56 (call (t 43) [t 49,t 55]),ay 57 .lss 56 0,cO 58 (un UnOp.not (t 57))] [(0,0),(1,0),(2,0),(3,0),(4,0),(5,0),(6,0),(7,0),(8,0),(9,0),(10,0),(11,0),(12,0),(13,2),(14,0),(15,0)]).seq (aA 58 ret skip)).seq ((ops 1 [aa 59 0,aa 60 3,aa 61 10,aR 62 .add 60 61,aa 63 0,aa 64 3,aa 65 11,aR 66 .add 64 65,aa 67 0,aa 68 3,aa 69 11,aR 70 .add 68 69,cO 71 (ixaS 1 (t 67) (t 70)),aK 72 71,aa 73 0,aa 74 3,aa 75 10,aR 76 .add 74 75,cO 77 (ixaS 1 (t 73) (t 76)),aK 78 77,cO 79 (ixaS 1 (t 59) (t 62)),bU 1 79 72,cO 80 (ixaS 1 (t 63) (t 66)),bU 1 80 78]).seq (ops 0 [aa 81 11,aa 10 81]))))))).loop)))
theorem Jf:Is Tryz.prog 118 HV:=mkI Tryz.func118
def Im:F2:=(F2.mk 7 [RV.t 2] (ab [cO 2 (mov (c (AV.int IntKind.u64 (0))))] (ab [aa 3 0,cO 4 (conv IntKind.u64 (t 3)),aN 5 79 [t 4],cO 6 (cB .shl (c (AV.int IntKind.u64 (1))) (t 5)),aa 2 6] ret)))
theorem Jb:Is Tryz.prog 119 Im:=mkI Tryz.func119
def Jg:F2:=(F2.mk 33 [RV.t 2] (ab [cO 2 (mov (c (AV.int IntKind.u64 (0))))] ((ops 1 [aa 3 0,cO 4 (nilck (t 3)),aK 5 4,aa 6 0,cO 7 (nilck (t 6)),aK 8 7,cO 9 (cB .shl (t 8) (c (AV.int IntKind.u64 (13)))),aR 10 .xor 5 9,cO 11 (nilck (t 3)),bU 1 11 10]).seq ((ops 1 [aa 12 0,cO 13 (nilck (t 12)),aK 14 13,aa 15 0,cO 16 (nilck (t 15)),aK 17 16,cO 18 (cB .shr (t 17) (c (AV.int IntKind.u64 (7)))),aR 19 .xor 14 18,cO 20 (nilck (t 12)),bU 1 20 19]).seq ((ops 1 [aa 21 0,cO 22 (nilck (t 21)),aK 23 22,aa 24 0,cO 25 (nilck (t 24)),aK 26 25,cO 27 (cB .shl (t 26) (c (AV.int IntKind.u64 (17)))),aR 28 .xor 23 27,cO 29 (nilck (t 21)),bU 1 29 28]).seq (ab [aa 30 0,cO 31 (nilck (t 30)),aK 32 31,aa 2 32] ret))))))
theorem HM:Is Tryz.prog 120 Jg:=mkI Tryz.func120
def IO:F2:=(F2.mk 18 [RV.t 8] (ab [cO 8 (mov (cN 0))] (ab [aa 9 0,aa 10 1,ay 11 .sub 10 1,aa 12 1,aa 13 1,ay 14 .add 13 1,aa 15 2,aa 16 3,aN 17 122 [t 9,t 11,t 12,t 14,t 15,t 16],aa 8 17] ret)))
theorem Jn:Is Tryz.prog 121 IO:=mkI Tryz.func121
def Il:F2:=(F2.mk 41 [RV.t 12] (ab [cO 12 (mov (cN 0))] (ab [aa 14 0,aa 15 1,aa 16 2,aa 17 4,aa 18 5,aN 19 128 [t 14,t 15,t 16,t 17,t 18],aa 13 19,a8 20 13 0,a8 21 13 1,aa 1 20,aa 2 21] (ab [aa 23 0,aa 24 2,aa 25 3,aa 26 4,aa 27 5,aN 28 128 [t 23,t 24,t 25,t 26,t 27],aa 22 28,a8 29 22 0,a8 30 22 1,aa 2 29,aa 3 30] (ab [aa 32 0,aa 33 1,aa 34 2,aa 35 4,aa 36 5,aN 37 128 [t 32,t 33,t 34,t 35,t 36],aa 31 37,a8 38 31 0,a8 39 31 1,aa 1 38,aa 2 39] (ab [aa 40 2,aa 12 40] ret))))))
theorem I2:Is Tryz.prog 122 Il:=mkI Tryz.func122
def Jv:F2:=(F2.mk 17 [RV.t 4] (ab [cO 4 (mov bk)] (ab [aa 5 0,aN 6 108 [t 5],aa 7 6,ap 8 7 (cM 1),ap 9 7 (call (cF 108) [t 8]),ap 10 7 (un UnOp.not (t 9)),cO 11 (pick (t 7) (t 10) bk),aa 12 11,cR 13 12 (cM 0),cR 14 12 (cM 1),cR 15 12 (cB .lss (t 13) (t 14)),cO 16 (pick (t 12) ff (t 15)),aa 4 16] ret)))
theorem IA:Is Tryz.prog 123 Jv:=mkI Tryz.func123
def IP:F2:=(F2.mk 6 [RV.t 2] (ab [cO 2 (mov bk)] (ab [aa 3 0,aa 4 0,aR 5 .neq 3 4,aa 2 5] ret)))
theorem H8:Is Tryz.prog 124 IP:=mkI Tryz.func124
def Jj:F2:=(F2.mk 32 [RV.t 10,RV.t 11] (ab [cO 10 (mov (cN 0)),cO 11 (mov (cN 0))] (((mixS 1 [aa 12 4,aa 13 0,aa 14 2,cO 15 (ixaS 1 (t 13) (t 14)),aK 16 15,aa 17 0,aa 18 1,cO 19 (ixaS 1 (t 17) (t 18)),aK 20 19,cO 21 (call (t 12) [t 16,t 20]),ay 22 .lss 21 0] [(0,0),(1,0),(2,0),(3,0),(4,0),(5,0),(6,0),(7,0),(8,0),(9,2),(10,0)]).seq (aA 22 (ab [aa 23 3,cO 24 (nilck (t 23)),aK 25 24,ay 26 .add 25 1,cO 27 (nilck (t 23)),bU 1 27 26] (ab [aa 28 2,aa 29 1,aa 10 28,aa 11 29] ret)) skip)).seq (ab [aa 30 1,aa 31 2,aa 10 30,aa 11 31] ret))))
theorem Iu:Is Tryz.prog 128 Jj:=mkI Tryz.func128
end Go.Proofs.YtlodfaaceehfmaaGreat
namespace Go.Proofs.YtlodfaaceehfmaaGreat
open Go Go.Abs
def swp {α:Type} [Inhabited α] (L:List α) (i j:Nat):List α:=(L.set i (L.getD j default)).set j (L.getD i default)
structure PermR {α:Type} [Inhabited α] (a b:Nat) (L L':List α):Prop where
 len:L'.length=L.length
 out:∀ i,i < a ∨ b ≤ i→L'.getD i default=L.getD i default
 perm:L'.Perm L
section
variable {α:Type} [Inhabited α] {a b a' b':Nat} {L L' L'':List α}
theorem dI {l:List α} {i j:Nat} {x:α} (h:i < l.length):(l.set i x).getD j default=if i=j then x else l.getD j default:=by
 simp only [List.getD,List.getElem?_set];split
 ·rename_i e; subst e; simp [h]
 ·rfl
theorem AW (i j:Nat):(swp L i j).length=L.length:=by simp [swp]
theorem eO {i j:Nat} (hi:i < L.length) (hj:j < L.length) (k:Nat):(swp L i j).getD k default=if k=j then L.getD i default else if k=i then L.getD j default else L.getD k default:=by
 unfold swp;rw [dI (by simpa using hj),dI hi];by_cases e:k=j
 ·subst e; simp
 ·rw [if_neg (fun h=>e h.symm),if_neg e];by_cases e2:k=i
  ·subst e2; simp
  ·rw [if_neg (fun h=>e2 h.symm),if_neg e2]
theorem D2 {i j:Nat} (hi:i < L.length) (hj:j < L.length):(swp L i j).Perm L:=by
 unfold swp;have e1:L.getD i default=L[i]:=by simp [List.getD,hi]
 have e2:L.getD j default=L[j]:=by simp [List.getD,hj]
 rw [e1,e2];exact List.set_set_perm hi hj
theorem PermR.refl:PermR a b L L:=⟨rfl,fun _ _=>rfl,List.Perm.refl _⟩
theorem PermR.trans (h:PermR a b L L') (k:PermR a b L' L''):PermR a b L L'':=⟨k.len.trans h.len,fun i hi=>(k.out i hi).trans (h.out i hi),k.perm.trans h.perm⟩
theorem PermR.mono (h:PermR a' b' L L') (h1:a ≤ a') (h2:b' ≤ b):PermR a b L L':=⟨h.len,fun i hi=>h.out i (by omega),h.perm⟩
theorem PermR.swap {i j:Nat} (h1:a ≤ i∧i < b) (h2:a ≤ j∧j < b) (hb:b ≤ L.length):PermR a b L (swp L i j) :=
 ⟨AW i j,fun k hk=>by rw [eO (by omega) (by omega),if_neg (by omega),if_neg (by omega)],D2 (by omega) (by omega)⟩
theorem xm {l m:List α} (hl:l.length=m.length) (h:∀ i,i < l.length→l.getD i default=m.getD i default):l=m :=
 List.ext_getElem hl (fun i h1 h2=>by
  have:=h i h1;simpa [List.getD,h1,h2] using this)
theorem PermR.mid (h:PermR a b L L') (hab:a ≤ b) (hb:b ≤ L.length):((L'.drop a).take (b - a)).Perm ((L.drop a).take (b - a)):=by
 have e1:∀ M:List α,b ≤ M.length→M=M.take a ++ ((M.drop a).take (b - a) ++ M.drop b):=fun M hM=>by
  have:M.drop b=(M.drop a).drop (b - a):=by rw [List.drop_drop]; congr 1; omega
  rw [this,De,De]
 have t:L'.take a=L.take a:=xm (by simp [h.len]) (fun i hi=>by
  have hi':i < a:=by simp at hi; omega
  rw [ut hi',ut hi']; exact h.out i (.inl hi'))
 have d:L'.drop b=L.drop b:=xm (by simp [h.len]) (fun i hi=>by
  have e:∀ M:List α,(M.drop b).getD i default=M.getD (b + i) default:=fun M=>by simp [List.getD,ji]
  rw [e,e]; exact h.out (b + i) (.inr (by omega)))
 have p:=h.perm;rw [e1 L' (by rw [h.len]; exact hb),e1 L hb,t,d] at p;exact (List.perm_append_right_iff _).1 ((List.perm_append_left_iff _).1 p)
theorem Au {M:List α} {x:α} (hab:a ≤ b) (hb:b ≤ M.length):x ∈ (M.drop a).take (b - a) ↔ ∃ i,a ≤ i∧i < b∧M.getD i default=x:=by
 constructor
 ·intro h;obtain ⟨j,hj,e⟩:=jW h;have hj':j < b - a:=by simp at hj; omega
  refine ⟨a + j,by omega,by omega,?_⟩;rw [← e];simp [List.getD,List.getElem_take,List.getElem_drop,show a + j < M.length by omega]
 ·rintro ⟨i,h1,h2,rfl⟩;rw [List.mem_iff_getElem?];refine ⟨i - a,?_⟩;rw [gw,if_pos (by omega),ji,show a + (i - a)=i by omega];simp [List.getD,show i < M.length by omega]
theorem PermR.all {p:α→Prop} (h:PermR a b L L') (hab:a ≤ b) (hb:b ≤ L.length) (hp:∀ i,a ≤ i→i < b→p (L.getD i default)):∀ i,a ≤ i→i < b→p (L'.getD i default):=by
 intro i h1 h2;have hm:L'.getD i default ∈ (L'.drop a).take (b - a):=(Au hab (by rw [h.len]; exact hb)).2 ⟨i,h1,h2,rfl⟩;obtain ⟨j,k1,k2,e⟩:=(Au hab hb).1 ((h.mid hab hb).mem_iff.1 hm);rw [← e]; exact hp j k1 k2
end
structure Ord {α:Type} (K:α→α→Int):Prop where
 irr:∀ x,¬ K x x < 0
 asym:∀ x y,K x y < 0→¬ K y x < 0
 negtr:∀ x y z,¬ K y x < 0→¬ K z y < 0→¬ K z x < 0
def bv {α:Type} [Inhabited α] (K:α→α→Int) (a b:Nat) (L:List α):Prop:=∀ i j,a ≤ i→i < j→j < b→¬ K (L.getD j default) (L.getD i default) < 0
theorem bv.one {α:Type} [Inhabited α] {K:α→α→Int} {a b:Nat} {L:List α} (h:b ≤ a + 1):bv K a b L:=fun i j h1 h2 h3=>by omega
structure LinK {α:Type} (K:α→α→Int):Prop where
 ord:Ord K
 eq:∀ x y,¬ K x y < 0→¬ K y x < 0→x=y
def bQ {α:Type} (K:α→α→Int) (l:List α):Prop:=l.Pairwise fun x y=>K x y < 0
def vL {α:Type} (K:α→α→Int):List α→α→List α
 | [],v=>[v]
 | a :: l,v=>if K v a < 0 then v :: a :: l else a :: vL K l v
section
variable {α:Type} [DecidableEq α] {K:α→α→Int}
def tw (K:α→α→Int) (acc:List α) (v:α):List α:=if v ∈ acc then acc else vL K acc v
def tG (K:α→α→Int) (acc l:List α):List α:=l.foldl (tw K) acc
def tE (K:α→α→Int) (l:List α):List α:=tG K [] l
omit [DecidableEq α] in
theorem bQ.nil:bQ K ([]:List α):=qJ
omit [DecidableEq α] in
theorem bQ.nodup {l:List α} (hK:LinK K) (h:bQ K l):l.Nodup:=tH (fun {a b} h e=>by subst e; exact hK.ord.irr a h) h
omit [DecidableEq α] in
theorem LinK.tri (hK:LinK K) (x y:α):K x y < 0 ∨ x=y ∨ K y x < 0:=by
 by_cases h1:K x y < 0
 ·exact .inl h1
 ·by_cases h2:K y x < 0
  ·exact .inr (.inr h2)
  ·exact .inr (.inl (hK.eq x y h1 h2))
omit [DecidableEq α] in
theorem LinK.trans (hK:LinK K) {x y z:α} (h1:K x y < 0) (h2:K y z < 0):K x z < 0:=by
 refine Decidable.byContradiction fun hn=>?_;exact hK.ord.negtr z x y hn (hK.ord.asym _ _ h1) h2
omit [DecidableEq α] in
theorem mD {a b:List α} (hK:LinK K) (ha:bQ K a) (hb:bQ K b) (h:∀ x,x ∈ a ↔ x ∈ b):a=b:=by
 classical
 have hp:a.Perm b:=(List.perm_ext_iff_of_nodup (ha.nodup hK) (hb.nodup hK)).2 h;exact List.Perm.eq_of_pairwise (fun x y _ _ h1 h2=>absurd h2 (hK.ord.asym _ _ h1)) ha hb hp
omit [DecidableEq α] in
theorem yB {l:List α} {v x:α}:x ∈ vL K l v ↔ x ∈ l ∨ x=v:=by
 induction l with
 | nil=>simp [vL]
 | cons a l ih =>
  unfold vL;split
  ·simp only [dw];exact ⟨fun h=>h.elim .inr .inl,fun h=>h.elim .inr .inl⟩
  ·rw [dw,ih,dw,or_assoc]
omit [DecidableEq α] in
theorem Da {l:List α} {v:α} (hK:LinK K) (h:bQ K l) (hv:v ∉ l):bQ K (vL K l v):=by
 induction l with
 | nil=>exact List.pairwise_singleton _ _
 | cons a l ih =>
  unfold bQ at h;rw [gS] at h;unfold vL;split
  ·rename_i hlt
   exact gS.2 ⟨fun y hy=>by
    rcases dw.1 hy with rfl | hy
    ·exact hlt
    ·exact hK.trans hlt (h.1 y hy),gS.2 h⟩
  ·rename_i hlt;refine gS.2 ⟨fun y hy=>?_,ih h.2 fun hm=>hv (d6 _ hm)⟩;rcases yB.1 hy with hy | rfl
   ·exact h.1 y hy
   ·rcases hK.tri y a with k | k | k
    ·exact absurd k hlt
    ·exact absurd (k ▸ di) hv
    ·exact k
omit [DecidableEq α] in
theorem DT {l:List α} {v:α}:(vL K l v).length=l.length + 1:=by
 induction l with
 | nil=>rfl
 | cons a l ih=>unfold vL; split <;> simp [ih]
theorem Ev {acc:List α} {v x:α}:x ∈ tw K acc v ↔ x ∈ acc ∨ x=v:=by
 unfold tw;split
 ·rename_i h;exact ⟨.inl,fun h2=>h2.elim id (fun e=>e ▸ h)⟩
 ·exact yB
theorem ES {acc:List α} {v:α} (hK:LinK K) (h:bQ K acc):bQ K (tw K acc v):=by
 unfold tw;split
 ·exact h
 ·rename_i hn;exact Da hK h hn
theorem C5 {acc:List α} {v:α}:(tw K acc v).length ≤ acc.length + 1:=by
 unfold tw;split
 ·omega
 ·rw [DT]; exact aP _
theorem x7:∀ {l acc:List α} {x:α},x ∈ tG K acc l ↔ x ∈ acc ∨ x ∈ l
 | [],acc,x=>by simp [tG]
 | v :: l,acc,x=>by
  rw [show tG K acc (v :: l)=tG K (tw K acc v) l from rfl,x7,Ev,dw,or_assoc]
theorem yh (hK:LinK K):∀ {l acc:List α},bQ K acc→bQ K (tG K acc l)
 | [],_,h=>h
 | v :: l,acc,h=>yh hK (l:=l) (ES hK (v:=v) h)
theorem xT:∀ {l acc:List α},(tG K acc l).length ≤ acc.length + l.length
 | [],acc=>by simp [tG]
 | v :: l,acc=>by
  rw [show tG K acc (v :: l)=tG K (tw K acc v) l from rfl];have:=xT (l:=l) (acc:=tw K acc v);have:=C5 (K:=K) (acc:=acc) (v:=v);rw [bN]; omega
theorem rz (hK:LinK K) (l:List α):bQ K (tE K l):=yh hK qJ
theorem oG {l:List α} {x:α}:x ∈ tE K l ↔ x ∈ l:=by
 unfold tE; rw [x7]; simp
theorem xJ {l:List α}:(tE K l).length ≤ l.length:=by
 have:=xT (K:=K) (l:=l) (acc:=[]);unfold tE;rw [fL] at this;omega
theorem Fh (hK:LinK K) {l:List α} (h:bQ K l):tE K l=l:=mD hK (rz hK l) h fun _=>oG
theorem xz {l:List α}:tE K l=[] ↔ l=[]:=by
 constructor
 ·intro h;cases l with
  | nil=>rfl
  | cons a l =>
   have:a ∈ tE K (a :: l):=oG.2 (di ..);rw [h] at this;exact absurd this (by simp)
 ·rintro rfl; rfl
end
section
variable {α:Type} [Inhabited α] [DecidableEq α]
end
abbrev Shn {α:Type} (l:List α):Prop:=l.length ≤ 17592186044416
structure Vtx where
 color:Int
 label:Int
 deriving Inhabited,DecidableEq
abbrev Spx:=List Vtx
def CX (v:Vtx):List AV:=[.int .i64 v.color,.int .i64 v.label]
abbrev dA (v:Vtx):AV:=.agg [.int .i64 v.color,.int .i64 v.label]
def aF (l:Spx):AV:=il 2 dA l
def aC (l:List Spx):AV:=il 1 aF l
def cX (l:Spx):List AV:=l.flatMap CX
theorem dK (v:Vtx):Dat (dA v):=Dat.agg (DatL.cons .int (DatL.cons .int DatL.nil))
theorem aH (l:Spx):Dat (aF l):=ri (fun x _ c hc=>by
 simp only [dA,AV.cells,dw,List.not_mem_nil,or_false] at hc;rcases hc with rfl | rfl <;> exact .int)
theorem aW (l:List Spx):Dat (aC l):=ri (fun x _ c hc=>by
 simp only [aF,il,AV.cells,dL] at hc; subst hc; exact aH x)
instance datI_encX {v:Vtx}:DatI (dA v):=⟨dK v⟩
instance datI_encXs {l:Spx}:DatI (aF l):=⟨aH l⟩
instance datI_encXss {l:List Spx}:DatI (aC l):=⟨aW l⟩
theorem bD {l:Spx}:(aF l).cells=[aF l]:=rfl
theorem b0 {l:Spx}:(aF l).one=true:=rfl
theorem ao {l:List Spx}:(aC l).cells=[aC l]:=rfl
theorem au {l:List Spx}:(aC l).one=true:=rfl
theorem zY {l:Spx} {k:IntKind} {n:Int}:eG 2 (aF l) (.int k n)=if 0 ≤ n∧n < l.length then some (.iptr [.int .i64 (l.getD n.toNat default).color,.int .i64 (l.getD n.toNat default).label] 0) else none:=o5
theorem az {l:Spx}:d4 (aF l)=some (.int .i64 l.length):=nC
theorem qw {l:List Spx} {k:IntKind} {n:Int}:eG 1 (aC l) (.int k n)=if 0 ≤ n∧n < l.length then some (.iptr [aF (l.getD n.toNat default)] 0) else none:=o5
theorem aj {l:List Spx}:d4 (aC l)=some (.int .i64 l.length):=nC
theorem ix2 {l:Spx} {k:Nat} (h:k < l.length):eG 2 (aF l) (.int .i64 (k:Int))=some (.iptr [.int .i64 (l.getD k default).color,.int .i64 (l.getD k default).label] 0):=by
 rw [zY,if_pos ⟨by omega,by omega⟩,cQ]
theorem fq {l:List Spx} {k:Nat} (h:k < l.length):eG 1 (aC l) (.int .i64 (k:Int))=some (.iptr [aF (l.getD k default)] 0):=by
 rw [qw,if_pos ⟨by omega,by omega⟩,cQ]
theorem jY (l:Spx):(cX l).length=l.length * 2:=by
 induction l with
 | nil=>rfl
 | cons a l ih=>rw [cX,tR,dr,bN,show (l.flatMap CX).length=l.length * 2 from ih]; show 2 + _=_; omega
theorem o7 (l m:Spx):cX (l ++ m)=cX l ++ cX m:=List.flatMap_append
theorem GO (v:Vtx):cX [v]=[.int .i64 v.color,.int .i64 v.label]:=rfl
theorem Ab (l:Spx):(l.map dA).flatMap AV.cells=cX l:=by
 induction l with
 | nil=>rfl
 | cons a l ih=>rw [dR,tR,ih]; rfl
theorem HI {H:Hp} {s:AV} {l:Spx} (h:Row H 2 s (cX l)):Snap H s (aF l):=by
 refine Row.snap (elems:=l.map dA) (by rw [Ab]; exact h) (fun y hy=>?_) (by omega) (fun y hy c hx=>?_)
 ·obtain ⟨n,_,rfl⟩:=bP.1 hy; rfl
 ·obtain ⟨n,_,rfl⟩:=bP.1 hy;simp only [dA,AV.cells,dw,List.not_mem_nil,or_false] at hx;rcases hx with rfl | rfl <;> exact .int
theorem l6 {H:Hp} {s:AV} {l:List Spx} (h:Row H 1 s (l.map aF)):Snap H s (aC l):=h.snapL' (fun _=>rfl) (fun x _=>aH x)
theorem xq {H:Hp} {l:Spx}:ef 2 H (aF l)=some (l.length,cX l):=by
 unfold aF il; rw [qN,Ab]; simp
theorem ma (l:Spx):AV.ones (cX l)=true:=by
 unfold AV.ones;rw [eH];intro x hx;obtain ⟨v,_,hv⟩:=List.mem_flatMap.1 hx;simp only [CX,dw,List.not_mem_nil,or_false] at hv;rcases hv with rfl | rfl <;> rfl
def ce (v w:Vtx):Int:=if v.color < w.color then -1 else if v.color > w.color then 1 else if v.label < w.label then -1 else if v.label > w.label then 1 else 0
def bG:Spx→Spx→Int
 | [],[]=>0
 | [],_ :: _=>-1
 | _ :: _,[]=>1
 | a :: l,b :: m=>if ce a b ≠ 0 then ce a b else bG l m
theorem n4 {v w:Vtx}:ce v w < 0 ↔ v.color < w.color ∨ (v.color=w.color∧v.label < w.label):=by
 unfold ce; (repeat' split) <;> constructor <;> intro h <;> omega
theorem nO {v w:Vtx}:v=w ↔ v.color=w.color∧v.label=w.label:=by
 obtain ⟨a,b⟩:=v;obtain ⟨c,d⟩:=w;simp
theorem ip {v w:Vtx}:ce v w=0 ↔ v=w:=by
 rw [nO]; unfold ce; (repeat' split) <;> constructor <;> intro h <;> omega
theorem ug (v w:Vtx):ce w v=- ce v w:=by
 unfold ce; (repeat' split) <;> omega
theorem Af:LinK ce where
 ord:={ irr:=fun x=>by rw [n4]; omega,asym:=fun x y h=>by rw [n4] at *; omega,negtr:=fun x y z h1 h2=>by rw [n4] at *; omega }
 eq:=fun x y h1 h2=>by rw [n4] at *; rw [nO]; omega
theorem f9:∀ l:Spx,bG l l=0
 | []=>rfl
 | a :: l=>by rw [bG,ip.2 rfl,if_neg (by simp)]; exact f9 l
theorem qW:∀ {l m:Spx},bG l m=0→l=m
 | [],[],_=>rfl
 | [],_ :: _,h=>by simp [bG] at h
 | _ :: _,[],h=>by simp [bG] at h
 | a :: l,b :: m,h=>by
  rw [bG] at h;by_cases e:ce a b=0
  ·rw [if_neg (fun h=>h e)] at h;rw [ip.1 e,qW h]
  ·rw [if_pos e] at h; exact absurd h e
theorem pu:∀ l m:Spx,bG m l=- bG l m
 | [],[]=>rfl
 | [],_ :: _=>rfl
 | _ :: _,[]=>rfl
 | a :: l,b :: m=>by
  rw [bG,bG,ug a b];by_cases e:ce a b=0
  ·rw [e,if_neg (by simp),if_neg (by simp)]; exact pu l m
  ·rw [if_pos (by omega),if_pos e]
theorem rk:∀ (x y z:Spx),¬ bG y x < 0→¬ bG z y < 0→¬ bG z x < 0
 | [],_,[],_,_=>by simp [bG]
 | [],_,_ :: _,_,_=>by simp [bG]
 | _ :: _,[],_,h,_=>by simp [bG] at h
 | _ :: _,_ :: _,[],_,h=>by simp [bG] at h
 | a :: x,b :: y,c :: z,h1,h2=>by
  rw [bG] at h1 h2 ⊢;have n:=Af.ord.negtr a b c;by_cases e1:ce b a=0
  ·have e1':=ip.1 e1;subst e1';rw [if_neg (fun h=>h e1)] at h1;by_cases e2:ce c b=0
   ·rw [if_neg (fun h=>h e2)] at h2 ⊢;exact rk x y z h1 h2
   ·rw [if_pos e2] at h2 ⊢; exact h2
  ·rw [if_pos e1] at h1;by_cases e2:ce c b=0
   ·have e2':=ip.1 e2;subst e2';rw [if_pos e1]; exact h1
   ·rw [if_pos e2] at h2;have h3:=n h1 h2;by_cases e3:ce c a=0
    ·exfalso;have e3':=ip.1 e3;subst e3';have:=ug b c;omega
    ·rw [if_pos e3]; exact h3
theorem iM:LinK bG where
 ord:={ irr:=fun x=>by rw [f9]; omega,asym:=fun x y h=>by rw [pu]; omega,negtr:=rk }
 eq:=fun x y h1 h2=>by
  have:=pu x y;exact qW (by omega)
theorem uF {l m:Spx} {k:Nat} (h1:k < l.length) (h2:k < m.length):bG (l.drop k) (m.drop k)=if ce (l.getD k default) (m.getD k default) ≠ 0 then ce (l.getD k default) (m.getD k default) else bG (l.drop (k + 1)) (m.drop (k + 1)):=by
 rw [mj h1,mj h2,bG]
theorem sD {l m:Spx} {k:Nat} (h:l.length ≤ k ∨ m.length ≤ k) (hk:k ≤ l.length∧k ≤ m.length):bG (l.drop k) (m.drop k)=if l.length < m.length then -1 else if m.length < l.length then 1 else 0:=by
 by_cases e1:l.length=k
 ·rw [Er (show l.length ≤ k by omega)];by_cases e2:m.length=k
  ·rw [Er (by omega),if_neg (by omega),if_neg (by omega)]; rfl
  ·rw [mj (l:=m) (k:=k) (by omega),if_pos (by omega)]; rfl
 ·have e2:m.length=k:=by omega
  rw [mj (l:=l) (k:=k) (by omega),Er (show m.length ≤ k by omega),if_neg (by omega),if_pos (by omega)]; rfl
def db (f:Nat→Int):Nat→Int
 | 0=>0
 | n + 1=>if db f n ≠ 0 then db f n else f n
theorem cT {f:Nat→Int}:∀ {n:Nat},(∀ i,i < n→f i=0)→db f n=0
 | 0,_=>rfl
 | n + 1,h=>by
  have:=cT (f:=f) (n:=n) (fun i hi=>h i (by omega));rw [db,this,if_neg (by simp)]; exact h n (by omega)
theorem cL {f:Nat→Int}:∀ {n k:Nat},k < n→(∀ i,i < k→f i=0)→f k ≠ 0→db f n=f k
 | 0,k,h,_,_=>absurd h (by omega)
 | n + 1,k,h,h0,hk=>by
  rw [db];by_cases e:k=n
  ·subst e;rw [cT h0,if_neg (by simp)]
  ·rw [cL (n:=n) (by omega) h0 hk,if_pos hk]
theorem fY {f:Nat→Int}:∀ {n:Nat},db f n=0→∀ i,i < n→f i=0
 | 0,_,i,h=>absurd h (by omega)
 | n + 1,h,i,hi=>by
  rw [db] at h;by_cases e:db f n=0
  ·rw [e,if_neg (by simp)] at h;by_cases ei:i=n
   ·subst ei; exact h
   ·exact fY e i (by omega)
  ·rw [if_pos e] at h; exact absurd h e
def fw (v:Vtx):Bool:=decide (0 ≤ v.color) && decide (v.color < 8) && (decide (0 ≤ v.label) && decide (v.label ≤ 1048576))
def qm (l:Spx) (k:Nat):Int:=if fw (l.getD k default)=false then 2 else if 0 < k∧0 ≤ ce (l.getD (k - 1) default) (l.getD k default) then 14 else 0
def bR (l:Spx):Int:=if l.length=0 then 16 else if 8 < l.length then 5 else db (qm l) l.length
theorem cV {l:Spx} (h:bR l=0):1 ≤ l.length∧l.length ≤ 8∧bQ ce l∧∀ v ∈ l,fw v=true:=by
 unfold bR at h;split at h
 ·exact absurd h (by decide)
 split at h
 ·exact absurd h (by decide)
 rename_i h1 h2;have hz:=fY h
 have h3:∀ k,k < l.length→fw (l.getD k default)=true∧(0 < k→ce (l.getD (k - 1) default) (l.getD k default) < 0):=fun k hk=>by
  have:=hz k hk;unfold qm at this;split at this
  ·exact absurd this (by decide)
  rename_i g1;split at this
  ·exact absurd this (by decide)
  rename_i g2;exact ⟨by simpa using g1,fun h0=>by omega⟩
 refine ⟨by omega,by omega,?_,fun v hv=>?_⟩
 ·have step:∀ j i,i < j→j < l.length→ce (l.getD i default) (l.getD j default) < 0:=by
    intro j
    induction j with
    | zero=>intro i h; omega
    | succ j ih =>
     intro i hi hj;have hs:=(h3 (j + 1) hj).2 (by omega);rw [qF] at hs;by_cases e:i=j
     ·subst e; exact hs
     ·exact Af.trans (ih i (by omega) (by omega)) hs
  unfold bQ;rw [mQ];intro i j hi hj hij;have:=step j i hij hj;simpa [List.getD,hi,hj] using this
 ·obtain ⟨i,hi,rfl⟩:=jW hv;have:=(h3 i hi).1;simpa [List.getD,hi] using this
theorem dJ {α:Type} [Inhabited α] {K:α→α→Int} {l:List α} (h:bQ K l) {i j:Nat} (hij:i < j) (hj:j < l.length):K (l.getD i default) (l.getD j default) < 0:=by
 have:=mQ.1 h i j (by omega) hj hij;simpa [List.getD,hj,show i < l.length by omega] using this
theorem xx {l:Spx} (h1:1 ≤ l.length∧l.length ≤ 8) (h2:bQ ce l) (h3:∀ v ∈ l,fw v=true):bR l=0:=by
 unfold bR;rw [if_neg (by omega),if_neg (by omega)];refine cT fun k hk=>?_;unfold qm;rw [h3 _ (ba hk),if_neg (by simp),if_neg];rintro ⟨h0,h4⟩;have:=dJ h2 (i:=k - 1) (j:=k) (by omega) hk;omega
end Go.Proofs.YtlodfaaceehfmaaGreat
namespace Go.Proofs.YtlodfaaceehfmaaGreat
open Go Go.Abs
open Nat (reduceEqDiff reduceAdd reduceLeDiff)
def c3i (a b:Int):Int:=if a < b then -1 else if a > b then 1 else 0
theorem Fr (v w:Vtx):(if c3i v.color w.color ≠ 0 then c3i v.color w.color else c3i v.label w.label)=ce v w:=by
 unfold c3i ce;by_cases h1:v.color < w.color
 ·rw [if_pos h1,if_pos h1,if_pos (by simp)]
 ·rw [if_neg h1,if_neg h1];by_cases h2:v.color > w.color
  ·rw [if_pos h2,if_pos h2,if_pos (by simp)]
  ·rw [if_neg h2,if_neg h2,if_neg (by simp)]
attribute [local irreducible] aM am bm be aX a6 aG aZ bf bI Go.Abs.Fn bc Go.Abs.Pure aB aQ Yl
theorem jr (n:Int):Pure Tryz.prog 108 [.int .i64 n] (.bool false):=by
 refine Pure.of_c2 follows GB (br rfl) ?_;simp only [GR,aU]
 repeat' (first|refine zW ?_|apply a_n|refine zO ?_|refine vZ ?_|refine ak rfl ?_|refine r1Z ?_|fail)
 exact cu (bj (fun h=>h rfl))
theorem Ds (a b:Int):Pure Tryz.prog 86 [.int .i64 a,.int .i64 b] (.int .i64 (c3i a b)):=by
 refine Pure.of_c2 follows Io (br rfl) ?_;simp only [b86,aU];have h1:=jr a;have h2:=jr b;unfold c3i
 repeat' (first|refine zW ?_|apply a_n|apply a_r|refine zO ?_|refine vZ ?_|refine cZ ?_ (hp:=by first | exact h1 | exact h2)|refine cFZ ?_|(refine zGZ ?_ ?_ <;> (intro _hg; try (exfalso; omega)))|refine ak rfl ?_|refine r1Z ?_|fail)
 all_goals (refine d8 ?_)
 ·rw [if_pos (by omega)]
 ·rw [if_neg (by omega),if_pos (by omega)]
 ·rw [if_neg (by omega),if_neg (by omega)]
theorem IW (a b:Int):Pure Tryz.prog 85 [aL [a,b]] (.int .i64 (if a ≠ 0 then a else b)):=by
 refine Pure.of_c2 follows Jp (br rfl) ?_;simp only [b85,aU]
 repeat' (first|refine zW ?_|apply a_n|refine zO ?_|refine vZ ?_|fail)
 refine A8 (fun k=>[(3,.int .i64 0),(6,aL [a,b]),(7,.int .i64 2),(8,.int .i64 k)]) 2 (fun k=>[a,b].getD k default=0) (by (iterate 4 refine And.intro rfl ?_); trivial) ?_;intro k hk hz;rcases (by omega:k=0 ∨ k=1 ∨ k=2) with rfl | rfl | rfl
 ·have e:[a,b].getD 0 default=a:=rfl;have ix:eG 1 (aL [a,b]) (.int .i64 ((0:Nat):Int))=some (.iptr [.int .i64 a] 0):=rfl;by_cases h0:a=0
  ·have z:decide (a ≠ 0)=false:=bj (fun h=>h h0);have zz:=aI @ix @z; repeat' (first|refine zW ?_|apply a_n|refine zO ?_|refine vZ ?_|refine cFZ ?_|(refine zGZ ?_ ?_ <;> (intro _hg; try (exfalso; omega)))|fail)
   exact ⟨by omega,h0,by (iterate 4 refine And.intro rfl ?_); trivial,rfl,rfl⟩
  ·have z:decide (a ≠ 0)=true:=bt h0;have zz:=aI @ix @z; repeat' (first|refine zW ?_|apply a_n|apply a_r|refine zO ?_|refine vZ ?_|refine cTZ ?_|(refine zGZ ?_ ?_ <;> (intro _hg; try (exfalso; omega)))|refine ak rfl ?_|refine r1Z ?_|fail)
   rw [if_pos h0]; exact .int _ _
 ·have h0:a=0:=hz 0 (by omega);have ix:eG 1 (aL [a,b]) (.int .i64 ((1:Nat):Int))=some (.iptr [.int .i64 b] 0):=rfl;rw [if_neg (fun h=>h h0)];by_cases h1:b=0
  ·have z:decide (b ≠ 0)=false:=bj (fun h=>h h1);have zz:=aI @ix @z; repeat' (first|refine zW ?_|apply a_n|refine zO ?_|refine vZ ?_|refine cFZ ?_|(refine zGZ ?_ ?_ <;> (intro _hg; try (exfalso; omega)))|fail)
   exact ⟨by omega,h1,by (iterate 4 refine And.intro rfl ?_); trivial,rfl,rfl⟩
  ·have z:decide (b ≠ 0)=true:=bt h1;have zz:=aI @ix @z; repeat' (first|refine zW ?_|apply a_n|apply a_r|refine zO ?_|refine vZ ?_|refine cTZ ?_|(refine zGZ ?_ ?_ <;> (intro _hg; try (exfalso; omega)))|refine ak rfl ?_|refine r1Z ?_|fail)
   exact .int _ _
 ·have h0:a=0:=hz 0 (by omega);have h1:b=0:=hz 1 (by omega);rw [if_neg (fun h=>h h0),h1]
  repeat' (first|refine zW ?_|apply a_n|apply a_x|refine zO ?_|refine vZ ?_|(refine zGZ ?_ ?_ <;> (intro _hg; try (exfalso; omega)))|refine ak rfl ?_|refine r1Z ?_|fail)
  exact .int _ _
theorem As (v w:Vtx):Pure Tryz.prog 63 [dA v,dA w] (.int .i64 (ce v w)):=by
 refine Pure.of_c2 follows Iw (br rfl) ?_;simp only [b63,aU];have h1:=Ds v.color w.color;have h2:=Ds v.label w.label;have h3:=IW (c3i v.color w.color) (c3i v.label w.label);rw [Fr] at h3
 repeat' (first|refine zW ?_|refine zM ?_|apply a_n|refine zO ?_|refine vZ ?_|refine cZ ?_ (hp:=by first | exact h1 | exact h2)|refine bxZ ?_|refine blZ ?_|fail)
 refine ie ev0 (by ((try simp only [da,ZA,reduceEqDiff,↓reduceIte,reduceAdd,reduceLeDiff]); (try with_reducible rfl)); rfl) h3 (af (ar (th ai rfl rfl) ac) rfl) ?_
 repeat' (first|apply a_n|refine zO ?_|refine vZ ?_|refine ak rfl ?_|refine r1Z ?_|fail)
 exact .int _ _
theorem sV (v w:Vtx):Pure Tryz.prog 70 [dA v,dA w] (.int .i64 (ce v w)):=by
 refine Pure.of_c2 follows KA (br rfl) ?_;simp only [b70,aU];unfold ce
 repeat' (first|refine zW ?_|apply a_n|apply a_r|refine zO ?_|refine vZ ?_|refine bxZ ?_|(refine zGZ ?_ ?_ <;> (intro _hg; try (exfalso; omega)))|refine ak rfl ?_|refine r1Z ?_|fail)
 all_goals (refine d8 ?_; (repeat' split) <;> omega)
theorem zF (v:Vtx):Pure Tryz.prog 72 [dA v] (.bool (fw v)):=by
 refine Pure.of_c2 follows IY (br rfl) ?_;simp only [b72,aU];unfold fw
 repeat' (first|refine zW ?_|apply a_n|refine zO ?_|refine vZ ?_|refine bxZ ?_|refine gTZ ?_|refine gFZ ?_|(refine zGZ ?_ ?_ <;> (intro _hg; try (exfalso; omega)))|refine ak rfl ?_|refine r1Z ?_|fail)
 all_goals (refine cu ?_; rw [Bool.eq_iff_iff]; simp only [dS,CR,iL,false_iff]; omega)
theorem CB (v:Vtx):Pure Tryz.prog 69 [dA v] (.bool (fw v)):=by
 refine Pure.of_c2 follows Ks (br rfl) ?_;simp only [b69,aU];unfold fw
 repeat' (first|refine zW ?_|apply a_n|refine zO ?_|refine vZ ?_|refine bxZ ?_|refine gTZ ?_|refine gFZ ?_|(refine zGZ ?_ ?_ <;> (intro _hg; try (exfalso; omega)))|refine ak rfl ?_|refine r1Z ?_|fail)
 all_goals (refine cu ?_; rw [Bool.eq_iff_iff]; simp only [dS,CR,iL,false_iff]; omega)
end Go.Proofs.YtlodfaaceehfmaaGreat
namespace Go.Proofs.YtlodfaaceehfmaaGreat
open Go Go.Abs
attribute [local irreducible] aM am bm be aX a6 aG aZ bf bI Go.Abs.Fn bc Go.Abs.Pure aB aQ Yl
theorem yn (l m:Spx) (hl:Shn l) (hm:Shn m):Pure Tryz.prog 62 [aF l,aF m,.func 63 []] (.int .i64 (bG l m)):=by
 refine Pure.of_c2 follows Ia (br rfl) ?_;simp only [b62,aU];have hl':l.length ≤ 17592186044416:=hl;have hm':m.length ≤ 17592186044416:=hm;have zz:=@az; repeat' (first|refine zW ?_|apply a_n|refine zO ?_|refine vZ ?_|fail)
 refine bC (X:=Nat) (fun k=>[(0,aF l),(1,aF m),(2,.func 63 []),(11,aF l),(12,.int .i64 l.length),(13,.int .i64 k)]) (fun k H nx=>k ≤ l.length∧k ≤ m.length∧bG l m=bG (l.drop k) (m.drop k)) (fun k=>l.length - k) 0 ⟨cf _,cf _,rfl⟩ ag0 ?_;rintro k H nx ⟨h1,h2,h3⟩;by_cases hk:k < l.length
 rotate_left
 ·rw [h3,sD (by omega) ⟨h1,h2⟩];clear zz;have zz:=@az; repeat' (first|refine zW ?_|apply a_n|apply a_x|apply a_r|refine zO ?_|refine vY ?_|(refine zGY ?_ ?_ <;> (intro _hg; try (exfalso; omega)))|refine ak rfl ?_|refine r1Y ?_|fail)
  all_goals (refine d8 ?_)
  ·rw [if_pos (by omega)]
  ·rw [if_neg (by omega),if_neg (by omega)]
 have ix:=ix2 hk;by_cases hk2:k < m.length
 rotate_left
 ·rw [h3,sD (by omega) ⟨h1,h2⟩,if_neg (by omega),if_pos (by omega)];clear zz;have zz:=aI @az @ix; repeat' (first|refine zW ?_|apply a_n|apply a_r|refine zO ?_|refine vY ?_|refine alY ?_|refine stY ?_|(refine zGY ?_ ?_ <;> (intro _hg; try (exfalso; omega)))|refine ak rfl ?_|refine r1Y ?_|fail)
  all_goals exact d8 rfl
 have iy:=ix2 hk2;have hc:=As (l.getD k default) (m.getD k default);have hd:=uF hk hk2;by_cases he:ce (l.getD k default) (m.getD k default)=0
 ·rw [if_neg (fun h=>h he)] at hd;rw [he] at hc;have z:decide ((0:Int) ≠ 0)=false:=rfl;clear zz;have zz:=aI @az (aI @ix (aI @iy @z)); repeat' (first|refine zW ?_|apply a_n|refine zO ?_|refine vY ?_|refine cY ?_ (hp:=hc) (hs:=by (first | refine af ?_ rfl | apply ag); (repeat' (first | exact ac | apply an | apply ah | exact dK _)); first | done | fail)|refine alY ?_|refine stY ?_|refine cFY ?_|(refine zGY ?_ ?_ <;> (intro _hg; try (exfalso; omega)))|fail)
  exact ⟨k + 1,by omega,⟨by omega,by omega,h3.trans hd⟩,ag0⟩
 ·rw [if_pos he] at hd;have z:decide (ce (l.getD k default) (m.getD k default) ≠ 0)=true:=bt he;rw [h3,hd];clear zz;have zz:=aI @az (aI @ix (aI @iy @z)); repeat' (first|refine zW ?_|apply a_n|apply a_r|refine zO ?_|refine vY ?_|refine cY ?_ (hp:=hc) (hs:=by (first | refine af ?_ rfl | apply ag); (repeat' (first | exact ac | apply an | apply ah | exact dK _)); first | done | fail)|refine alY ?_|refine stY ?_|refine cTY ?_|(refine zGY ?_ ?_ <;> (intro _hg; try (exfalso; omega)))|refine ak rfl ?_|refine r1Y ?_|fail)
  exact .int _ _
theorem gd (l m:Spx) (hl:Shn l) (hm:Shn m):Pure Tryz.prog 38 [aF l,aF m] (.int .i64 (bG l m)):=by
 refine Pure.of_c2 follows HR (br rfl) ?_;simp only [b38,aU];have h:=yn l m hl hm
 repeat' (first|refine zW ?_|apply a_n|refine zO ?_|refine vZ ?_|refine cZ ?_ (hp:=h) (hs:=by (first | refine af ?_ rfl | apply ag); (repeat' (first | exact ac | apply an | apply ah | exact aH _ | exact Dat.func (by simp))); first | done | fail)|refine ak rfl ?_|refine r1Z ?_|fail)
 exact .int _ _
theorem sR (l m:Spx) (hl:Shn l) (hm:Shn m):Pure Tryz.prog 42 [aF l,aF m] (.int .i64 (bG l m)):=by
 refine Pure.of_c2 follows Kt (br rfl) ?_;simp only [b42,aU];have hl':l.length ≤ 17592186044416:=hl;have hm':m.length ≤ 17592186044416:=hm
 repeat' (first|refine zW ?_|apply a_n|refine zO ?_|refine vZ ?_|fail)
 refine bC (X:=Nat) (fun k=>[(0,aF l),(1,aF m),(5,.int .i64 k)]) (fun k H nx=>k ≤ l.length∧k ≤ m.length∧bG l m=bG (l.drop k) (m.drop k)) (fun k=>l.length - k) 0 ⟨cf _,cf _,rfl⟩ ag0 ?_;rintro k H nx ⟨h1,h2,h3⟩;by_cases hk:k < l.length∧k < m.length
 rotate_left
 ·rw [h3,sD (by omega) ⟨h1,h2⟩];have zz:=@az; repeat' (first|refine zW ?_|apply a_n|apply a_x|apply a_r|refine zO ?_|refine vY ?_|refine gTY ?_|refine gFY ?_|refine cFY ?_|(refine zGY ?_ ?_ <;> (intro _hg; try (exfalso; omega)))|refine ak rfl ?_|refine r1Y ?_|fail)
  all_goals (refine d8 ?_; (repeat' split) <;> omega)
 have ix:=ix2 hk.1;have iy:=ix2 hk.2;have hc:=sV (l.getD k default) (m.getD k default);have hd:=uF hk.1 hk.2;by_cases he:ce (l.getD k default) (m.getD k default)=0
 ·rw [if_neg (fun h=>h he)] at hd;rw [he] at hc;have z:decide ((0:Int) ≠ 0)=false:=rfl;have zz:=aI @az (aI @ix (aI @iy @z)); repeat' (first|refine zW ?_|refine zM ?_|apply a_n|refine zO ?_|refine vY ?_|refine cY ?_ (hp:=hc) (hs:=by (first | refine af ?_ rfl | apply ag); (repeat' (first | exact ac | apply an | apply ah | exact dK _)); first | done | fail)|refine gTY ?_|refine cFY ?_|(refine zGY ?_ ?_ <;> (intro _hg; try (exfalso; omega)))|fail)
  exact ⟨k + 1,by omega,⟨by omega,by omega,h3.trans hd⟩,ag0⟩
 ·rw [if_pos he] at hd;have z:decide (ce (l.getD k default) (m.getD k default) ≠ 0)=true:=bt he;rw [h3,hd];have zz:=aI @az (aI @ix (aI @iy @z)); repeat' (first|refine zW ?_|refine zM ?_|apply a_n|apply a_r|refine zO ?_|refine vY ?_|refine cY ?_ (hp:=hc) (hs:=by (first | refine af ?_ rfl | apply ag); (repeat' (first | exact ac | apply an | apply ah | exact dK _)); first | done | fail)|refine gTY ?_|refine cTY ?_|(refine zGY ?_ ?_ <;> (intro _hg; try (exfalso; omega)))|refine ak rfl ?_|refine r1Y ?_|fail)
  exact .int _ _
theorem qu {l:Spx} {k:Nat}:qm l k=if fw (l.getD k default)=false then 2 else if 0 < k∧0 ≤ ce (l.getD (k - 1) default) (l.getD k default) then 14 else 0:=rfl
theorem oU (l:Spx) (hl:Shn l):Pure Tryz.prog 45 [aF l] (.int .i64 (bR l)):=by
 refine Pure.of_c2 follows HW (br rfl) ?_;simp only [b45,aU];have hl':l.length ≤ 17592186044416:=hl;by_cases h0:l.length=0
 ·rw [show bR l=16 by unfold bR; rw [if_pos h0]];have zz:=@az; repeat' (first|refine zW ?_|apply a_n|apply a_r|refine zO ?_|refine vZ ?_|(refine zGZ ?_ ?_ <;> (intro _hg; try (exfalso; omega)))|refine ak rfl ?_|refine r1Z ?_|fail)
  all_goals exact d8 rfl
 by_cases h8:8 < l.length
 ·rw [show bR l=5 by unfold bR; rw [if_neg h0,if_pos h8]];have zz:=@az; repeat' (first|refine zW ?_|apply a_n|apply a_r|refine zO ?_|refine vZ ?_|(refine zGZ ?_ ?_ <;> (intro _hg; try (exfalso; omega)))|refine ak rfl ?_|refine r1Z ?_|fail)
  all_goals exact d8 rfl
 rw [show bR l=db (qm l) l.length by unfold bR; rw [if_neg h0,if_neg h8]];have zz:=@az; repeat' (first|refine zW ?_|apply a_n|refine zO ?_|refine vZ ?_|(refine zGZ ?_ ?_ <;> (intro _hg; try (exfalso; omega)))|fail)
 refine bC (X:=Nat) (fun k=>[(0,aF l),(13,aF l),(14,.int .i64 l.length),(15,.int .i64 k)]) (fun k H nx=>k ≤ l.length∧∀ i,i < k→qm l i=0) (fun k=>l.length - k) 0 ⟨cf _,fun i h=>absurd h (by omega)⟩ ag0 ?_;rintro k H nx ⟨h1,h2⟩;by_cases hk:k < l.length
 rotate_left
 ·rw [cT fun i hi=>h2 i (by omega)];clear zz;have zz:=@az; repeat' (first|refine zW ?_|apply a_n|apply a_x|refine zO ?_|refine vY ?_|(refine zGY ?_ ?_ <;> (intro _hg; try (exfalso; omega)))|refine ak rfl ?_|refine r1Y ?_|fail)
  exact .int _ _
 have ix:=ix2 hk;have hp:=zF (l.getD k default);have hs:=qu (l:=l) (k:=k);cases hr:fw (l.getD k default)
 ·rw [hr] at hp;rw [hr,if_pos rfl] at hs;rw [cL hk h2 (by rw [hs]; decide),hs];clear zz;have zz:=aI @az @ix; repeat' (first|refine zW ?_|apply a_n|apply a_r|refine zO ?_|refine vY ?_|refine cY ?_ (hp:=hp) (hs:=by (first | refine af ?_ rfl | apply ag); (repeat' (first | exact ac | apply an | apply ah | exact dK _)); first | done | fail)|refine alY ?_|refine stY ?_|refine cTY ?_|(refine zGY ?_ ?_ <;> (intro _hg; try (exfalso; omega)))|refine ak rfl ?_|refine r1Y ?_|fail)
  exact .int _ _
 rw [hr] at hp;rw [hr,if_neg (by decide)] at hs;by_cases hk0:0 < k
 rotate_left
 ·rw [if_neg (fun h=>hk0 h.1)] at hs;have zk:decide (0 < (k:Int))=false:=bj (by omega);clear zz;have zz:=aI @az (aI @ix @zk); repeat' (first|refine zW ?_|refine zM ?_|apply a_n|refine zO ?_|refine vY ?_|refine cY ?_ (hp:=hp) (hs:=by (first | refine af ?_ rfl | apply ag); (repeat' (first | exact ac | apply an | apply ah | exact dK _)); first | done | fail)|refine alY ?_|refine stY ?_|refine gFY ?_|refine cFY ?_|(refine zGY ?_ ?_ <;> (intro _hg; try (exfalso; omega)))|fail)
  exact ⟨k + 1,by omega,⟨by omega,fun i hi=>by
   rcases jl.1 hi with h | rfl
   ·exact h2 i h
   ·exact hs⟩,ag0⟩
 have zk:decide (0 < (k:Int))=true:=bt (by omega)
 have iy:eG 2 (aF l) (.int .i64 ((k:Int) - 1))=some (.iptr [.int .i64 (l.getD (k - 1) default).color,.int .i64 (l.getD (k - 1) default).label] 0):=by
  have:=ix2 (l:=l) (k:=k - 1) (by omega)
  rwa [show ((k - 1:Nat):Int)=(k:Int) - 1 by omega] at this
 have hc:=As (l.getD (k - 1) default) (l.getD k default);by_cases hv:0 ≤ ce (l.getD (k - 1) default) (l.getD k default)
 ·have z:decide (0 ≤ ce (l.getD (k - 1) default) (l.getD k default))=true:=bt hv;rw [if_pos ⟨hk0,hv⟩] at hs;rw [cL hk h2 (by rw [hs]; decide),hs];clear zz;have zz:=aI @az (aI @ix (aI @iy (aI @zk @z))); repeat' (first|refine zW ?_|refine zM ?_|apply a_n|apply a_r|refine zO ?_|refine vY ?_|refine cY ?_ (hp:=by first | exact hp | exact hc) (hs:=by (first | refine af ?_ rfl | apply ag); (repeat' (first | exact ac | apply an | apply ah | exact dK _)); first | done | fail)|refine alY ?_|refine stY ?_|refine gTY ?_|refine cTY ?_|refine cFY ?_|(refine zGY ?_ ?_ <;> (intro _hg; try (exfalso; omega)))|refine ak rfl ?_|refine r1Y ?_|fail)
  exact .int _ _
 ·have z:decide (0 ≤ ce (l.getD (k - 1) default) (l.getD k default))=false:=bj hv;rw [if_neg (fun h=>hv h.2)] at hs;clear zz;have zz:=aI @az (aI @ix (aI @iy (aI @zk @z))); repeat' (first|refine zW ?_|refine zM ?_|apply a_n|refine zO ?_|refine vY ?_|refine cY ?_ (hp:=by first | exact hp | exact hc) (hs:=by (first | refine af ?_ rfl | apply ag); (repeat' (first | exact ac | apply an | apply ah | exact dK _)); first | done | fail)|refine alY ?_|refine stY ?_|refine gTY ?_|refine cFY ?_|(refine zGY ?_ ?_ <;> (intro _hg; try (exfalso; omega)))|fail)
  exact ⟨k + 1,by omega,⟨by omega,fun i hi=>by
   rcases jl.1 hi with h | rfl
   ·exact h2 i h
   ·exact hs⟩,ag0⟩
theorem Am (l:Spx) (hl:Shn l):Pure Tryz.prog 41 [aF l] (.int .i64 (bR l)):=by
 refine Pure.of_c2 follows Kk (br rfl) ?_;simp only [b41,aU];have hl':l.length ≤ 17592186044416:=hl;by_cases h0:l.length=0
 ·rw [show bR l=16 by unfold bR; rw [if_pos h0]];have zz:=@az; repeat' (first|refine zW ?_|apply a_n|apply a_r|refine zO ?_|refine vZ ?_|(refine zGZ ?_ ?_ <;> (intro _hg; try (exfalso; omega)))|refine ak rfl ?_|refine r1Z ?_|fail)
  all_goals exact d8 rfl
 by_cases h8:8 < l.length
 ·rw [show bR l=5 by unfold bR; rw [if_neg h0,if_pos h8]];have zz:=@az; repeat' (first|refine zW ?_|apply a_n|apply a_r|refine zO ?_|refine vZ ?_|(refine zGZ ?_ ?_ <;> (intro _hg; try (exfalso; omega)))|refine ak rfl ?_|refine r1Z ?_|fail)
  all_goals exact d8 rfl
 rw [show bR l=db (qm l) l.length by unfold bR; rw [if_neg h0,if_neg h8]];have zz:=@az; repeat' (first|refine zW ?_|apply a_n|refine zO ?_|refine vZ ?_|(refine zGZ ?_ ?_ <;> (intro _hg; try (exfalso; omega)))|fail)
 refine bC (X:=Nat) (fun k=>[(0,aF l),(3,.int .i64 k)]) (fun k H nx=>k ≤ l.length∧∀ i,i < k→qm l i=0) (fun k=>l.length - k) 0 ⟨cf _,fun i h=>absurd h (by omega)⟩ ag0 ?_;rintro k H nx ⟨h1,h2⟩;by_cases hk:k < l.length
 rotate_left
 ·rw [cT fun i hi=>h2 i (by omega)];clear zz;have zz:=@az; repeat' (first|refine zW ?_|apply a_n|apply a_x|refine zO ?_|refine vY ?_|(refine zGY ?_ ?_ <;> (intro _hg; try (exfalso; omega)))|refine ak rfl ?_|refine r1Y ?_|fail)
  exact .int _ _
 have ix:=ix2 hk;have hp:=CB (l.getD k default);have hs:=qu (l:=l) (k:=k);cases hr:fw (l.getD k default)
 ·rw [hr] at hp;rw [hr,if_pos rfl] at hs;rw [cL hk h2 (by rw [hs]; decide),hs];clear zz;have zz:=aI @az @ix; repeat' (first|refine zW ?_|apply a_n|apply a_r|refine zO ?_|refine vY ?_|refine cY ?_ (hp:=hp) (hs:=by (first | refine af ?_ rfl | apply ag); (repeat' (first | exact ac | apply an | apply ah | exact dK _)); first | done | fail)|refine cTY ?_|(refine zGY ?_ ?_ <;> (intro _hg; try (exfalso; omega)))|refine ak rfl ?_|refine r1Y ?_|fail)
  exact .int _ _
 rw [hr] at hp;rw [hr,if_neg (by decide)] at hs;by_cases hk0:0 < k
 rotate_left
 ·rw [if_neg (fun h=>hk0 h.1)] at hs;have zk:decide (0 < (k:Int))=false:=bj (by omega);clear zz;have zz:=aI @az (aI @ix @zk); repeat' (first|refine zW ?_|refine zM ?_|apply a_n|refine zO ?_|refine vY ?_|refine cY ?_ (hp:=hp) (hs:=by (first | refine af ?_ rfl | apply ag); (repeat' (first | exact ac | apply an | apply ah | exact dK _)); first | done | fail)|refine gFY ?_|refine cFY ?_|(refine zGY ?_ ?_ <;> (intro _hg; try (exfalso; omega)))|fail)
  exact ⟨k + 1,by omega,⟨by omega,fun i hi=>by
   rcases jl.1 hi with h | rfl
   ·exact h2 i h
   ·exact hs⟩,ag0⟩
 have zk:decide (0 < (k:Int))=true:=bt (by omega)
 have iy:eG 2 (aF l) (.int .i64 ((k:Int) - 1))=some (.iptr [.int .i64 (l.getD (k - 1) default).color,.int .i64 (l.getD (k - 1) default).label] 0):=by
  have:=ix2 (l:=l) (k:=k - 1) (by omega)
  rwa [show ((k - 1:Nat):Int)=(k:Int) - 1 by omega] at this
 have hc:=sV (l.getD (k - 1) default) (l.getD k default);by_cases hv:0 ≤ ce (l.getD (k - 1) default) (l.getD k default)
 ·have z:decide (0 ≤ ce (l.getD (k - 1) default) (l.getD k default))=true:=bt hv;rw [if_pos ⟨hk0,hv⟩] at hs;rw [cL hk h2 (by rw [hs]; decide),hs];clear zz;have zz:=aI @az (aI @ix (aI @iy (aI @zk @z))); repeat' (first|refine zW ?_|refine zM ?_|apply a_n|apply a_r|refine zO ?_|refine vY ?_|refine cY ?_ (hp:=by first | exact hp | exact hc) (hs:=by (first | refine af ?_ rfl | apply ag); (repeat' (first | exact ac | apply an | apply ah | exact dK _)); first | done | fail)|refine gTY ?_|refine cTY ?_|refine cFY ?_|(refine zGY ?_ ?_ <;> (intro _hg; try (exfalso; omega)))|refine ak rfl ?_|refine r1Y ?_|fail)
  exact .int _ _
 ·have z:decide (0 ≤ ce (l.getD (k - 1) default) (l.getD k default))=false:=bj hv;rw [if_neg (fun h=>hv h.2)] at hs;clear zz;have zz:=aI @az (aI @ix (aI @iy (aI @zk @z))); repeat' (first|refine zW ?_|refine zM ?_|apply a_n|refine zO ?_|refine vY ?_|refine cY ?_ (hp:=by first | exact hp | exact hc) (hs:=by (first | refine af ?_ rfl | apply ag); (repeat' (first | exact ac | apply an | apply ah | exact dK _)); first | done | fail)|refine gTY ?_|refine cFY ?_|(refine zGY ?_ ?_ <;> (intro _hg; try (exfalso; omega)))|fail)
  exact ⟨k + 1,by omega,⟨by omega,fun i hi=>by
   rcases jl.1 hi with h | rfl
   ·exact h2 i h
   ·exact hs⟩,ag0⟩
end Go.Proofs.YtlodfaaceehfmaaGreat