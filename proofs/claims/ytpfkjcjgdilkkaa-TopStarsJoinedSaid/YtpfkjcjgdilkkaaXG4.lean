/- Texts of this claim, one after the other: AbsI2, AbsO, Code, U1, T100, T101, T102, T103, T104, T105, T108, U2s, U3s. -/
import Derived.Test.YtpfkjcjgdilkkaaXG3
import Derived.ChangeArms
import Derived.Carry
import Derived.Deep.Slices
import Derived.Lib.SmallJoins
import Derived.Test.YtpfkjcjgdilkkaaProg
import Derived.KernelRfl

set_option linter.unusedSimpArgs false
set_option linter.unusedVariables false
namespace Go.Abs
open Go.RowKit
def SF:Nat:=40
abbrev CL:=FuncId→List AV→HT→Nat→Option (AV × HT × Nat)
abbrev PC:=FuncId→List AV→HT→Option AV
def xJ (cl:CL) (pc:PC) (yl:CL) (dm:DM) (i:Ins) (T:TT) (H:HT) (nx:Nat):Option (AV × HT × Nat) :=
 match ic i with
 | .val=>match dm2 dm (toT T) i with
  | true=>match ba (toT T) (cE H) i with
   | some r=>some (r,H,nx)
   | none=>none
  | false=>none
 | .eff=>match dm2 dm (toT T) i with
  | true=>y6 T H nx i
  | false=>none
 | .call=>match i with
  | .call f args=>match ov (toT T) f with
   | .func g caps=>match dm.isText with
    | true=>cl g (args.map (ov (toT T)) ++ caps) H nx
    | false=>match pc g (args.map (ov (toT T)) ++ caps) H with
     | some r=>some (r,H,nx)
     | none=>none
   | .bfn g fs=>match dm.isText with
    | true=>cl g (fs ++ args.map (ov (toT T))) H nx
    | false=>none
   | .yld b=>match dm.isText with
    | true=>yl b (args.map (ov (toT T))) H nx
    | false=>none
   | _=>none
  | _=>none
 | .sp=>match dm.isText with
  | true=>rsp (toT T) H nx i
  | false=>none
def pR (cl:CL) (pc:PC) (yl:CL) (dm:DM):List Op2→TT→HT→Nat→Option (TT × HT × Nat)
 | [],T,H,nx=>some (T,H,nx)
 | o :: l,T,H,nx=>match g2 (toT T) o.g with
  | none=>none
  | some false=>match stT T o.d (.tup []) with
   | some T=>pR cl pc yl dm l T H nx
   | none=>none
  | some true=>match xJ cl pc yl dm o.i T H nx with
   | none=>none
   | some (r,H,nx)=>frV r fun r=>match stT T o.d r with
    | some T=>pR cl pc yl dm l T H nx
    | none=>none
structure CLok (P:Program) (L:LV) (cl:CL) (pc:PC) (yl:CL):Prop where
 cl:∀ {g:FuncId} {args:List AV} {H H':HT} {nx nx':Nat} {r:AV} {R:AV→Hp→Nat→Prop},cl g args H nx=some (r,H',nx')→R r (toH L H') nx'→Fn P g args (toH L H) nx R
 pc:∀ {g:FuncId} {args:List AV} {H:HT} {r:AV},pc g args H=some r→i6 P g args (toH L H) r
 yl:∀ {g:Nat} {args:List AV} {H H':HT} {nx nx':Nat} {r:AV} {R:AV→Hp→Nat→Prop},yl g args H nx=some (r,H',nx')→R r (toH L H') nx'→Yl P g args (toH L H) nx R
theorem tV {P:Program} {L:LV} {cl:CL} {pc:PC} {yl:CL} (hk:CLok P L cl pc yl) {dm:DM} {i:Ins} {T:TT} {H H':HT} {nx nx':Nat} {r:AV} {K:AV→Hp→Nat→Prop}
    (h:xJ cl pc yl dm i T H nx=some (r,H',nx')) (hK:K r (toH L H') nx'):bI P dm i (toT T) (toH L H) nx K:=by
 unfold xJ at h;unfold bI;cases hi:ic i with
 | val =>
  rw [hi] at h;simp only at h ⊢;split at h
  ·rename_i hd;split at h
   ·rename_i r' hr;cases h;exact ⟨hd,by rw [uF bT hr]; exact hK⟩
   ·cases h
  ·cases h
 | eff =>
  rw [hi] at h;simp only at h ⊢;split at h
  ·rename_i hd;exact ⟨hd,by rw [xA h]; exact hK⟩
  ·cases h
 | sp =>
  rw [hi] at h;simp only at h ⊢;split at h
  ·rename_i hd;exact ⟨hd,zd h hK⟩
  ·cases h
 | call =>
  rw [hi] at h;simp only at h ⊢;cases i <;> try (cases hi; done)
  rename_i f args;simp only at h ⊢;cases hf:ov (toT T) f <;> rw [hf] at h <;> simp only at h <;> try (cases h; done)
  ·rename_i g caps;left;show match dm.isText with | false=>_ | true=>_
   cases hd:dm.isText with
   | true=>rw [hd] at h; exact hk.cl h hK
   | false =>
    rw [hd] at h;simp only at h;split at h
    ·rename_i r' hr;cases h;exact ⟨_,hk.pc hr,hK⟩
    ·cases h
  ·rename_i g fs;right;cases hd:dm.isText with
   | true=>rw [hd] at h; exact ⟨rfl,.inr ⟨g,fs,rfl,hk.cl h hK⟩⟩
   | false=>rw [hd] at h; cases h
  ·rename_i b;right;cases hd:dm.isText with
   | true=>rw [hd] at h; exact ⟨rfl,.inl ⟨b,rfl,hk.yl h hK⟩⟩
   | false=>rw [hd] at h; cases h
theorem gV {P:Program} {L:LV} {cl:CL} {pc:PC} {yl:CL} (hk:CLok P L cl pc yl) {dm:DM} {K:SP}:∀ {l:List Op2} {T T':TT} {H H':HT} {nx nx':Nat},
    pR cl pc yl dm l T H nx=some (T',H',nx')→K (toT T') (toH L H') nx'→aq P dm l (toT T) (toH L H) nx K
 | [],_,_,_,_,_,_,h,hK=>by cases h; exact hK
 | o :: l,T,T',H,H',nx,nx',h,hK=>by
  simp only [pR] at h;show bA (g2 (toT T) o.g) _ _;cases hg:g2 (toT T) o.g with
  | none=>rw [hg] at h; cases h
  | some b =>
   rw [hg] at h;cases b with
   | false =>
    simp only at h;split at h
    ·rename_i T1 hs;have:=gV hk h hK;rw [jS hs] at this;exact this
    ·cases h
   | true =>
    simp only at h;split at h
    ·cases h
    ·rename_i r H1 nx1 hr;simp only [k9] at h;split at h
     ·rename_i T1 hs;have:=gV hk h hK;rw [jS hs] at this;exact tV (K:=fun r H nx=>aq P dm l (aH (toT T) o.d r) H nx K) hk hr this
     ·cases h
def ju (f:AV→AV→Bool):List AV→List AV→Bool
 | [],[]=>true
 | x :: l,y :: m=>match f x y with
  | true=>ju f l m
  | false=>false
 | _,_=>false
theorem m9 {f:AV→AV→Bool} (h:∀ x y,f x y=true→x=y):∀ {l m:List AV},ju f l m=true→l=m
 | [],[],_=>rfl
 | [],_ :: _,h=>by cases h
 | _ :: _,[],h=>by cases h
 | x :: l,y :: m,he=>by
  simp only [ju] at he;split at he
  ·rename_i hx;rw [h _ _ hx,m9 h he]
  ·cases he
def qr:Nat→AV→AV→Bool
 | 0,_,_=>false
 | k + 1,x,y=>match x with
  | .undef=>match y with
   | .undef=>true
   | _=>false
  | .bool a=>match y with
   | .bool b=>decide (a=b)
   | _=>false
  | .int j a=>match y with
   | .int i b=>decide (j=i) && decide (a=b)
   | _=>false
  | .str a=>match y with
   | .str b=>decide (a=b)
   | _=>false
  | .nilp=>match y with
   | .nilp=>true
   | _=>false
  | .nilf=>match y with
   | .nilf=>true
   | _=>false
  | .nilm=>match y with
   | .nilm=>true
   | _=>false
  | .esl=>match y with
   | .esl=>true
   | _=>false
  | .ptr b n o=>match y with
   | .ptr b' n' o'=>Nat.beq b b' && Nat.beq n n' && Nat.beq o o'
   | _=>false
  | .msl b n s o l=>match y with
   | .msl b' n' s' o' l'=>Nat.beq b b' && Nat.beq n n' && Nat.beq s s' && Nat.beq o o' && Nat.beq l l'
   | _=>false
  | .mp b=>match y with
   | .mp b'=>Nat.beq b b'
   | _=>false
  | .yld b=>match y with
   | .yld b'=>Nat.beq b b'
   | _=>false
  | .sl s l=>match y with
   | .sl s' l'=>Nat.beq s s' && ju (qr k) l l'
   | _=>false
  | .iptr l s=>match y with
   | .iptr l' s'=>Nat.beq s s' && ju (qr k) l l'
   | _=>false
  | .func s l=>match y with
   | .func s' l'=>Nat.beq s s' && ju (qr k) l l'
   | _=>false
  | .agg l=>match y with
   | .agg l'=>ju (qr k) l l'
   | _=>false
  | .tup l=>match y with
   | .tup l'=>ju (qr k) l l'
   | _=>false
  | _=>false
theorem tB:∀ (k:Nat) (x y:AV),qr k x y=true→x=y
 | 0,_,_,h=>by cases h
 | k + 1,x,y,h=>by
  have ih:∀ {l m:List AV},ju (qr k) l m=true→l=m:=fun h=>m9 (tB k) h;cases x <;> simp only [qr] at h <;> (try (cases h; done)) <;> cases y <;> simp only [d8,gv] at h <;> (try (cases h; done)) <;> (try rfl)
  ·rw [h]
  ·rw [h.1,h.2]
  ·rw [h]
  ·rw [jl h.1.1,jl h.1.2,jl h.2]
  ·rw [jl h.1,ih h.2]
  ·rw [jl h.1,ih h.2]
  ·rw [jl h.1.1.1.1,jl h.1.1.1.2,jl h.1.1.2,jl h.1.2,jl h.2]
  ·rw [show _=_ from jl h.1,ih h.2]
  ·rw [jl h]
  ·rw [jl h]
  ·rw [ih h]
  ·rw [ih h]
def loadAt (T:Tm):Ins→Option Nat
 | .ld1 a=>match ov T a with
  | .ptr b _ _=>some b
  | _=>none
 | .ldn _ a=>match ov T a with
  | .ptr b _ _=>some b
  | _=>none
 | _=>none
def jP:List (Op2 × Nat)→TT→HT→List Nat→List Nat
 | [],_,_,acc=>acc
 | (o,0) :: l,T,H,acc=>match g2 (toT T) o.g with
  | some true=>match ba (toT T) (cE H) o.i with
   | some r=>match stT T o.d r with
    | some T'=>match loadAt (toT T) o.i with
     | some b=>jP l T' H (b :: acc)
     | none=>jP l T' H acc
    | none=>acc
   | none=>jP l T H acc
  | _=>jP l T H acc
 | (_,_ + 1) :: l,T,H,acc=>jP l T H acc
def nR (H0 H:HT):List Nat→Bool
 | []=>true
 | b :: l=>match cE H0 b with
  | none=>nR H0 H l
  | some x=>match cE H b with
   | some y=>match ju (qr SF) x y with
    | true=>nR H0 H l
    | false=>false
   | none=>false
def nc (H0:HT) (ids:List Nat):Hp:=fun b=>match ids.elem b with
 | true=>cE H0 b
 | false=>none
theorem od {H0 H:HT}:∀ {ids:List Nat},nR H0 H ids=true→∀ b cs,ids.elem b=true→cE H0 b=some cs→cE H b=some cs
 | [],_,b,cs,hb,_=>by cases hb
 | a :: l,h,b,cs,hb,hc=>by
  simp only [nR] at h
  have hb':b=a ∨ l.elem b=true:=by
   rw [List.elem_cons] at hb;cases e:b == a with
   | true=>exact .inl (eq_of_beq e)
   | false=>rw [e] at hb; exact .inr hb
  split at h
  ·rename_i hn;rcases hb' with rfl | hb'
   ·rw [hn] at hc; cases hc
   ·exact od h b cs hb' hc
  ·rename_i x hx;split at h
   ·rename_i y hy;split at h
    ·rename_i he;rcases hb' with rfl | hb'
     ·rw [hx] at hc; cases hc;rw [hy,m9 (tB SF) he]
     ·exact od h b cs hb' hc
    ·cases h
   ·cases h
theorem pu {L:LV} {H0 H:HT} {ids:List Nat} (h:nR H0 H ids=true):Sub (nc H0 ids) (toH L H):=fun b cs hb=>by
 unfold nc at hb;split at hb
 ·rename_i he;exact bT b cs (od h b cs he hb)
 ·cases hb
def gM (cl:CL) (pc:PC) (yl:CL) (H0:HT) (ids:List Nat):List (Op2 × Nat)→TT→HT→Nat→Option (TT × HT × Nat)
 | [],T,H,nx=>some (T,H,nx)
 | (o,0) :: l,T,H,nx=>match g2 (toT T) o.g with
  | none=>none
  | some false=>match stT T o.d (.tup []) with
   | some T=>gM cl pc yl H0 ids l T H nx
   | none=>none
  | some true=>match ba (toT T) (nc H0 ids) o.i with
   | none=>none
   | some r=>frV r fun r=>match stT T o.d r with
    | some T=>gM cl pc yl H0 ids l T H nx
    | none=>none
 | (o,k + 1) :: l,T,H,nx=>match g2 (toT T) o.g with
  | none=>none
  | some false=>match stT T o.d (.tup []) with
   | some T=>gM cl pc yl H0 ids l T H nx
   | none=>none
  | some true=>if k=2 then (match rR (toT T) o.i with
      | none=>none
      | some r=>frV r fun r=>match stT T o.d r with
       | some T=>gM cl pc yl H0 ids l T H nx
       | none=>none)
   else match xJ cl pc yl .text o.i T H nx with
    | none=>none
    | some (r,H,nx)=>match (match k with | 0=>nR H0 H ids | _=>true) with
     | true=>frV r fun r=>match stT T o.d r with
      | some T=>gM cl pc yl H0 ids l T H nx
      | none=>none
     | false=>none
theorem fI {P:Program} {L:LV} {cl:CL} {pc:PC} {yl:CL} (hk:CLok P L cl pc yl) {H0:HT} {ids:List Nat} {K:SP}:∀ {l:List (Op2 × Nat)} {T T':TT} {H H':HT} {nx nx':Nat},
    gM cl pc yl H0 ids l T H nx=some (T',H',nx')→K (toT T') (toH L H') nx'→bg P (nc H0 ids) l (toT T) (toH L H) nx K
 | [],_,_,_,_,_,_,h,hK=>by cases h; exact hK
 | (o,0) :: l,T,T',H,H',nx,nx',h,hK=>by
  simp only [gM] at h;show bA (g2 (toT T) o.g) _ _;cases hg:g2 (toT T) o.g with
  | none=>rw [hg] at h; cases h
  | some b =>
   rw [hg] at h;cases b with
   | false =>
    simp only at h;split at h
    ·rename_i T1 hs;have:=fI hk h hK;rw [jS hs] at this;exact this
    ·cases h
   | true =>
    simp only at h;split at h
    ·cases h
    ·rename_i r hr;simp only [k9] at h;split at h
     ·rename_i T1 hs;have:=fI hk h hK;rw [jS hs] at this;show aM (ba (toT T) (nc H0 ids) o.i) _;rw [hr]; exact this
     ·cases h
 | (o,k + 1) :: l,T,T',H,H',nx,nx',h,hK=>by
  simp only [gM] at h;show bA (g2 (toT T) o.g) _ _;cases hg:g2 (toT T) o.g with
  | none=>rw [hg] at h; cases h
  | some b =>
   rw [hg] at h;cases b with
   | false =>
    simp only at h;split at h
    ·rename_i T1 hs;have:=fI hk h hK;rw [jS hs] at this;exact this
    ·cases h
   | true =>
    simp only at h;show if k=2 then _ else _
    split at h
    ·rename_i h2;rw [if_pos h2];split at h
     ·cases h
     ·rename_i r hr;simp only [k9] at h;split at h
      ·rename_i T1 hs;have:=fI hk h hK;rw [jS hs] at this;rw [hr]; exact this
      ·cases h
    ·rename_i h2;rw [if_neg h2];split at h
     ·cases h
     ·rename_i r H1 nx1 hr;split at h
      ·rename_i hkeep;simp only [k9] at h;split at h
       ·rename_i T1 hs;have:=fI hk h hK;rw [jS hs] at this;refine tV (K:=fun r H' nx'=>(k=0→Sub (nc H0 ids) H')∧bg P (nc H0 ids) l (aH (toT T) o.d r) H' nx' K) hk hr ⟨fun hk0=>?_,this⟩;subst hk0;exact pu hkeep
       ·cases h
      ·cases h
def rvs (T:Tm) (H:Hp):List RV→Option (List AV)
 | []=>some []
 | a :: l=>match rv T H a with
  | some x=>match rvs T H l with
   | some xs=>some (x :: xs)
   | none=>none
  | none=>none
def zo (T:Tm) (H:Hp):List RV→Option AV
 | []=>some (.tup [])
 | [a]=>rv T H a
 | [a,b]=>match rv T H a,rv T H b with
  | some x,some y=>some (.tup [x,y])
  | _,_=>none
 | [a,b,c]=>match rv T H a,rv T H b,rv T H c with
  | some x,some y,some z=>some (.tup [x,y,z])
  | _,_,_=>none
 | a :: b :: c :: d :: l=>(rvs T H (a :: b :: c :: d :: l)).map .tup
theorem rb {T:Tm} {S H:Hp} (hs:Sub S H):∀ {l:List RV} {xs:List AV} {K:List AV→Prop},rvs T S l=some xs→K xs→ve T H l K
 | [],xs,K,h,hK=>by cases h; exact hK
 | a :: l,xs,K,h,hK=>by
  simp only [rvs] at h;split at h
  ·rename_i x hx;split at h
   ·rename_i ys hy;cases h;show aM (rv T H a) _;rw [jM hs hx];exact rb hs hy hK
   ·cases h
  ·cases h
theorem xn {T:Tm} {S H:Hp} (hs:Sub S H) {l:List RV} {r:AV} {K:AV→Prop} (h:zo T S l=some r) (hK:K r):cz T H K l:=by
 rcases l with _ | ⟨a,_ | ⟨b,_ | ⟨c,_ | ⟨d,l⟩⟩⟩⟩ <;> simp only [zo] at h
 ·cases h; exact hK
 ·exact r_1 (jM hs h) hK
 ·split at h
  ·rename_i x y hx hy;cases h; exact r_2 (jM hs hx) (jM hs hy) hK
  ·cases h
 ·split at h
  ·rename_i x y z hx hy hz;cases h; exact r_3 (jM hs hx) (jM hs hy) (jM hs hz) hK
  ·cases h
 ·cases ho:rvs T S (a :: b :: c :: d :: l) with
  | none=>rw [ho] at h; cases h
  | some xs =>
   rw [ho] at h;cases h;exact rb hs ho hK
structure LFr where
 y:Nat
 ps:List Nat
 a:C2
 b:C2
 T:TT
abbrev RN:=List LFr→C2→TT→HT→Nat→Option (AEx × TT × HT × Nat)
def jy (code:FuncId→Option F2) (rn:RN) (fr:List LFr):CL:=fun g args H nx =>
 match code g with
 | none=>none
 | some F=>if args.length ≤ F.n then match wn args with
     | none=>none
     | some T=>match rn fr F.body T H nx with
      | none=>none
      | some (e,T',H',nx')=>match e.ends with
       | true=>match zo (toT T') (cE H') F.res with
        | some r=>frV r fun r=>some (r,H',nx')
        | none=>none
       | false=>none
  else none
def ke (code:FuncId→Option F2) (rn:RN):PC:=fun g args H =>
 match cq (snapV a9 SF) args with
 | some a=>match jy code rn [] g a .leaf 0 with
  | some (v,H',_)=>snapV (cE H') SF v
  | none=>none
 | none=>match cq (snapV (cE H) SF) args with
  | some a=>match jy code rn [] g a .leaf 0 with
   | some (v,H',_)=>match snapV (cE H') SF v with
    | some r=>match r.sca with
     | true=>some r
     | false=>gi (cE H') SF v
    | none=>none
   | none=>none
  | none=>none
def hZ (H:Hp):Nat→List AV→List Nat→List Nat
 | 0,_,acc=>acc
 | _ + 1,[],acc=>acc
 | k + 1,x :: l,acc=>match x with
  | .msl b _ _ _ _=>match acc.elem b with
   | true=>hZ H k l acc
   | false=>hZ H k ((H b).getD [] ++ l) (b :: acc)
  | .ptr b _ _=>match acc.elem b with
   | true=>hZ H k l acc
   | false=>hZ H k ((H b).getD [] ++ l) (b :: acc)
  | .sl _ cs=>hZ H k (cs ++ l) acc
  | .iptr cs _=>hZ H k (cs ++ l) acc
  | .func _ cs=>hZ H k (cs ++ l) acc
  | .agg cs=>hZ H k (cs ++ l) acc
  | .tup cs=>hZ H k (cs ++ l) acc
  | _=>hZ H k l acc
def RF2:Nat:=100000
def jE:List Nat→HT→Option HT
 | [],H=>some H
 | b :: l,H=>match PT.set LIM H b none with
  | some H=>jE l H
  | none=>none
def wx (code:FuncId→Option F2) (rn:RN):CL:=fun g args H nx =>
 match cq (snapV a9 SF) args with
 | some a=>match jy code rn [] g a .leaf 0 with
  | some (v,H',_)=>match snapV (cE H') SF v with
   | some r=>some (r,H,nx)
   | none=>none
  | none=>none
 | none=>match cq (snapV (cE H) SF) args with
  | some a=>match jy code rn [] g a .leaf 0 with
   | some (v,H',_)=>match snapV (cE H') SF v with
    | some r=>match r.sca with
     | true=>some (r,H,nx)
     | false=>match gi (cE H') SF v with
      | some r=>some (r,H,nx)
      | none=>match jE (hZ (cE H) RF2 args []) H with
       | some H2=>match cq (snapV (fun b=>match (cE H2 b).isSome with | true=>none | false=>cE H b) SF) args with
        | some a2=>match jy code rn [] g a2 .leaf 0 with
         | some (v,H',_)=>match snapV (cE H') SF v with
          | some r=>some (r,H2,nx)
          | none=>none
         | none=>none
        | none=>none
       | none=>none
    | none=>none
   | none=>none
  | none=>none
structure CT where
 c:FuncId→List AV→Nat→Option AV
 q:FuncId→List AV→Option AV
def AD:CT:=⟨fun _ _ _=>none,fun _ _=>none⟩
structure CTok (P:Program) (ct:CT):Prop where
 c:∀ (g:FuncId) (args:List AV) (nx:Nat) (r:AV),ct.c g args nx=some r→∀ (H:Hp) (R:AV→Hp→Nat→Prop),R r (aj H nx []) (nx + 1)→Fn P g args H nx R
 q:∀ (g:FuncId) (args:List AV) (r:AV),ct.q g args=some r→Pure P g args r
theorem xx {P:Program}:CTok P AD:=⟨fun _ _ _ _ h=>(by cases h),fun _ _ _ h=>(by cases h)⟩
def sG (q:FuncId→List AV→Option AV) (g:FuncId) (args:List AV) (H:HT) (nx:Nat):Option (AV × HT × Nat) :=
 match cq (snapV a9 SF) args with
 | some a=>match q g a with
  | some r=>some (r,H,nx)
  | none=>none
 | none=>match cq (snapV (cE H) SF) args with
  | some a=>match q g a with
   | some r=>match r.sca with
    | true=>some (r,H,nx)
    | false=>match jE (hZ (cE H) RF2 args []) H with
     | some H2=>match cq (snapV (fun b=>match (cE H2 b).isSome with | true=>none | false=>cE H b) SF) args with
      | some a2=>match q g a2 with
       | some r2=>some (r2,H2,nx)
       | none=>none
      | none=>none
     | none=>none
   | none=>none
  | none=>none
def lU (code:FuncId→Option F2) (pf:FuncId→Bool) (ct:CT) (rn:RN) (fr:List LFr):CL:=fun g args H nx =>
 match ct.c g args nx with
 | some r=>match PT.set LIM H nx (some (.cells [])) with
  | some H2=>some (r,H2,nx + 1)
  | none=>none
 | none=>match pf g with
  | true=>match sG ct.q g args H nx with
   | some r=>some r
   | none=>wx code rn g args H nx
  | false=>jy code rn fr g args H nx
def mS:List LFr→Nat→Option (LFr × List LFr)
 | [],_=>none
 | F :: l,y=>match Nat.beq F.y y with
  | true=>some (F,l)
  | false=>mS l y
def stL (T:TT):List Nat→List AV→Option TT
 | t :: ts,x :: xs=>match PT.set LIM T t (some x) with
  | some T=>stL T ts xs
  | none=>none
 | _,_=>some T
def v8:AEx→Bool
 | .normal=>true
 | _=>false
def rk (rn:RN) (fr:List LFr):CL:=fun y args H nx =>
 match mS fr y with
 | none=>none
 | some (F,l)=>match H.get y with
  | some (.mark none)=>match Nat.beq args.length F.ps.length with
   | true=>match stL F.T F.ps args with
    | none=>none
    | some T1=>match rn l F.a T1 H nx with
     | some (.normal,T2,H2,nx2)=>match H2.get y with
      | some (.mark none)=>match PT.set LIM H2 y none with
       | none=>none
       | some H3=>match rn l F.b T2 H3 nx2 with
        | none=>none
        | some (e,T4,H4,nx4)=>match e with
         | .normal=>match PT.set LIM H4 y (some (.mark none)) with
          | some H5=>some (.bool true,H5,nx4)
          | none=>none
         | e=>match PT.set LIM H4 y (some (.mark (some e))) with
          | some H5=>some (.bool false,H5,nx4)
          | none=>none
      | _=>none
     | _=>none
   | false=>none
  | _=>none
def AW (m nx:Nat):DM:=match m with
 | 0=>.text
 | 1=>.draw
 | _=>.fresh nx
def ua (m nx:Nat):DM:=match m with
 | 1=>.draw
 | _=>.fresh nx
def rH (x:Option (TT × HT × Nat)):Option (AEx × TT × HT × Nat):=match x with
 | some (T,H,nx)=>some (.normal,T,H,nx)
 | none=>none
def run (code:FuncId→Option F2) (pf:FuncId→Bool) (ct:CT):Nat→RN
 | 0,_,_,_,_,_=>none
 | n + 1,fr,c,T,H,nx=>match c with
  | .skip=>some (.normal,T,H,nx)
  | .exit i=>some (.exit i,T,H,nx)
  | .ret=>some (.ret,T,H,nx)
  | .ops m l=>rH (pR (lU code pf ct (run code pf ct n) fr) (ke code (run code pf ct n)) (rk (run code pf ct n) fr) (AW m nx) l T H nx)
  | .mix m l C=>match Nat.beq m 9 with
   | true=>rH (pR (lU code pf ct (run code pf ct n) fr) (ke code (run code pf ct n)) (rk (run code pf ct n) fr) .text (C.map fun k=>l.getD k ⟨none,none,.dead⟩) T H nx)
   | false=>match pR (lU code pf ct (run code pf ct n) fr) (ke code (run code pf ct n)) (rk (run code pf ct n) fr) (ua m nx) l T H nx with
    | some x=>rH (some x)
    | none=>rH (pR (lU code pf ct (run code pf ct n) fr) (ke code (run code pf ct n)) (rk (run code pf ct n) fr) .text (C.map fun k=>l.getD k ⟨none,none,.dead⟩) T H nx)
  | .mixS m l C=>match (match Nat.beq m 9 with
      | true=>none
      | false=>pR (lU code pf ct (run code pf ct n) fr) (ke code (run code pf ct n)) (rk (run code pf ct n) fr) (ua m nx) l T H nx) with
   | some x=>rH (some x)
   | none=>match nR H H (jP (C.map fun k=>(l.getD k.1 ⟨none,none,.dead⟩,k.2)) T H []) with
    | true=>rH (gM (lU code pf ct (run code pf ct n) fr) (ke code (run code pf ct n)) (rk (run code pf ct n) fr) H (jP (C.map fun k=>(l.getD k.1 ⟨none,none,.dead⟩,k.2)) T H []) (C.map fun k=>(l.getD k.1 ⟨none,none,.dead⟩,k.2)) T H nx)
    | false=>none
  | .seq a b=>match run code pf ct n fr a T H nx with
   | some (.normal,T,H,nx)=>run code pf ct n fr b T H nx
   | r=>r
  | .cond c a b=>match ov (toT T) c with
   | .bool true=>run code pf ct n fr a T H nx
   | .bool false=>run code pf ct n fr b T H nx
   | _=>none
  | .block id b=>match run code pf ct n fr b T H nx with
   | some (e,T,H,nx)=>some (iR id e,T,H,nx)
   | none=>none
  | .loop b=>match run code pf ct n fr b T H nx with
   | some (.normal,T,H,nx)=>run code pf ct n fr (.loop b) T H nx
   | r=>r
  | .rangeF g ps a b=>match ov (toT T) g with
   | .func f caps=>match mS fr nx with
    | some _=>none
    | none=>match PT.set LIM H nx (some (.mark none)) with
     | none=>none
     | some H1=>match jy code (run code pf ct n) (⟨nx,ps,a,b,T⟩ :: fr) f (.yld nx :: caps) H1 (nx + 1) with
      | none=>none
      | some (_,H2,nx2)=>match H2.get nx with
       | some (.mark st)=>match PT.set LIM H2 nx none with
        | none=>none
        | some H3=>match st with
         | none=>some (.normal,T,H3,nx2)
         | some e=>match v8 e with
          | true=>none
          | false=>some (e,T,H3,nx2)
       | _=>none
   | _=>none
def iK (P:Program) (code:FuncId→Option F2):Prop:=∀ {f:FuncId} {F:F2},code f=some F→Is P f F
def dG (P:Program) (L:LV):List LFr→Prop
 | []=>True
 | F :: fr => (∀ (args : List AV) (H' : Hp) (nx' : Nat) (K' : AV → Hp → Nat → Prop), H' F.y = some (L F.y none) → args.length = F.ps.length →
       aO P F.a (gk (toT F.T) F.ps args) H' nx' (fun e T2 H2 nx2=>bk e (H2 F.y=some (L F.y none)∧aO P F.b T2 (cb H2 F.y) nx2 fun e T3 H3 nx3=>bk e (K' (.bool true) (aj H3 F.y (L F.y none)) nx3) (K' (.bool false) (aj H3 F.y (L F.y (some e))) nx3)) False) →
       Yl P F.y args H' nx' K')∧dG P L fr
def yg:List Nat→FuncId→Bool
 | [],_=>false
 | k :: l,f=>match Nat.beq k f with
  | true=>true
  | false=>yg l f
theorem rT {P:Program} {L:LV}:∀ {fr:List LFr} {y:Nat} {F:LFr} {l:List LFr},dG P L fr→mS fr y=some (F,l)→F.y=y∧dG P L (F :: l)
 | [],_,_,_,_,h=>by cases h
 | G :: fr,y,F,l,hf,h=>by
  simp only [mS] at h;split at h
  ·rename_i e;cases h;exact ⟨jl e,hf⟩
  ·exact rT hf.2 h
theorem nY {P:Program} {L L':LV} {y:Nat} (hL:∀ b e,b ≠ y→L' b e=L b e):∀ {fr:List LFr},dG P L fr→mS fr y=none→dG P L' fr
 | [],_,_=>trivial
 | G :: fr,hf,h=>by
  simp only [mS] at h;split at h
  ·cases h
  ·rename_i e;have hne:G.y ≠ y:=fun he=>by rw [he,Nat.beq_refl] at e; cases e
   refine ⟨?_,nY hL hf.2 h⟩;have h1:∀ e,L' G.y e=L G.y e:=fun e=>hL _ _ hne;simp only [h1];exact hf.1
theorem vX:∀ {ts:List Nat} {xs:List AV} {T T':TT},stL T ts xs=some T'→toT T'=gk (toT T) ts xs
 | [],_,_,_,h=>by cases h; rfl
 | _ :: _,[],_,_,h=>by cases h; rfl
 | t :: ts,x :: xs,T,T',h=>by
  simp only [stL] at h;split at h
  ·rename_i T1 h1;rw [vX h,qg h1];rfl
  ·cases h
structure RunOk (P:Program) (rn:RN):Prop where
 ok:∀ {L:LV} {fr:List LFr} {c:C2} {T T':TT} {H H':HT} {nx nx':Nat} {e:AEx} {K:CP},dG P L fr→rn fr c T H nx=some (e,T',H',nx')→K e (toT T') (toH L H') nx'→aO P c (toT T) (toH L H) nx K
theorem dJ {P:Program} {code:FuncId→Option F2} (hc:iK P code) {rn:RN} (hr:RunOk P rn) {L:LV} {fr:List LFr} (hf:dG P L fr) {g:FuncId} {args:List AV} {H H':HT} {nx nx':Nat} {r:AV}
    (h:jy code rn fr g args H nx=some (r,H',nx')):∃ F,Is P g F∧args.length ≤ F.n∧∀ K:AV→Hp→Nat→Prop,K r (toH L H') nx'→aO P F.body (T0 args) (toH L H) nx fun e T H nx=>bx e.ends (cz T H (fun x=>K x H nx) F.res):=by
 unfold jy at h;split at h
 ·cases h
 ·rename_i F hF;split at h
  ·rename_i hl;split at h
   ·cases h
   ·rename_i T hT;split at h
    ·cases h
    ·rename_i e T' H1 nx1 hrun;split at h
     ·rename_i he;split at h
      ·rename_i r1 hres;simp only [k9] at h;cases h;refine ⟨F,hc hF,hl,fun K hK=>?_⟩;rw [← uv hT];exact hr.ok hf hrun ⟨he,xn bT hres hK⟩
      ·cases h
     ·cases h
  ·cases h
def L0:LV:=fun _ _=>[]
theorem v5 {P:Program} {code:FuncId→Option F2} (hm:P.follows .mixedOrders=true) (hc:iK P code) {rn:RN} (hr:RunOk P rn) {L:LV} {g:FuncId} {args:List AV} {H:HT} {r:AV} (h:ke code rn g args H=some r):i6 P g args (toH L H) r:=by
    have hf0:dG P L0 []:=trivial;have n0:Sub a9 a9:=fun _ _ h=>h;unfold ke at h;split at h
    ·rename_i a ha;split at h
     ·rename_i v H' nx' hcall;obtain ⟨F,h1,h2,h3⟩:=dJ hc hr hf0 hcall;have hp:Pure P g a r:=Pure.of_c2 hm h1 h2 (h3 (fun x H _=>Snap H x r) (cK bT _ h));obtain ⟨o1,o2⟩:=cm ha;exact hp.callOk (.inl ⟨o1,fun i x y hx hy=>cK n0 _ (o2 i x y hx hy)⟩)
     ·cases h
    ·split at h
     ·rename_i a ha;obtain ⟨o1,o2⟩:=cm ha;have hs:a7 (toH L H) args a:=⟨o1,fun i x y hx hy=>cK bT _ (o2 i x y hx hy)⟩
      split at h
      ·rename_i v H' nx' hcall;obtain ⟨F,h1,h2,h3⟩:=dJ hc hr hf0 hcall;split at h
       ·rename_i r1 hr1;split at h
        ·rename_i hsc;cases h;have hp:Pure P g a r:=Pure.of_c2 hm h1 h2 (h3 (fun x H _=>Snap H x r) (cK bT _ hr1));exact hp.callOk (.inr ⟨hs,hsc⟩)
        ·have hp:f8 P g a r:=f8.of_c2 hm h1 h2 (h3 (fun x H _=>SnapF H x r) (lq bT _ h));exact hp.callOk hs
       ·cases h
      ·cases h
     ·cases h
theorem jC:∀ {l:List Nat} {H H2:HT},jE l H=some H2→∀ {b:Nat} {c:BC},H2.get b=some c→H.get b=some c
 | [],_,_,h,_,_,hb=>by cases h; exact hb
 | b :: l,H,H2,h,b',c,hb=>by
  simp only [jE] at h;split at h
  ·rename_i H1 h1;have:=jC h hb;rw [PT.get_set _ h1] at this;split at this
   ·cases this
   ·exact this
  ·cases h
theorem gy {L:LV}:∀ {l:List Nat} {H H2:HT},jE l H=some H2→∀ b cs,toH L H2 b=some cs→toH L H b=some cs
 | [],_,_,h=>by cases h; exact fun _ _ h=>h
 | b :: l,H,H2,h=>by
  simp only [jE] at h;split at h
  ·rename_i H1 h1;intro b' cs hb;have:=gy h b' cs hb;rw [pJ h1] at this;exact (jg this).2
  ·cases h
theorem wM {P:Program} {code:FuncId→Option F2} (hm:P.follows .mixedOrders=true) (hc:iK P code) {rn:RN} (hr:RunOk P rn) {L:LV} {g:FuncId} {args:List AV} {H H2:HT} {nx nx':Nat} {r:AV} {R:AV→Hp→Nat→Prop} (h:wx code rn g args H nx=some (r,H2,nx')) (hR:R r (toH L H2) nx'):Fn P g args (toH L H) nx R:=by
 have hf0:dG P L0 []:=trivial;have n0:Sub a9 a9:=fun _ _ h=>h;unfold wx at h;split at h
 ·rename_i a ha;split at h
  ·rename_i v H' nx1 hcall;split at h
   ·rename_i r1 hr1;cases h;obtain ⟨F,h1,h2,h3⟩:=dJ hc hr hf0 hcall;have hp:Pure P g a r:=Pure.of_c2 hm h1 h2 (h3 (fun x H _=>Snap H x r) (cK bT _ hr1));obtain ⟨o1,o2⟩:=cm ha;exact Fn.of_pure hp (.inl ⟨o1,fun i x y hx hy=>cK n0 _ (o2 i x y hx hy)⟩) hR
   ·cases h
  ·cases h
 ·split at h
  ·rename_i a ha;obtain ⟨o1,o2⟩:=cm ha;have hs:a7 (toH L H) args a:=⟨o1,fun i x y hx hy=>cK bT _ (o2 i x y hx hy)⟩
   split at h
   ·rename_i v H' nx1 hcall;obtain ⟨F,h1,h2,h3⟩:=dJ hc hr hf0 hcall;split at h
    ·rename_i r1 hr1;split at h
     ·rename_i hsc;cases h;have hp:Pure P g a r:=Pure.of_c2 hm h1 h2 (h3 (fun x H _=>Snap H x r) (cK bT _ hr1));exact Fn.of_pure hp (.inr ⟨hs,hsc⟩) hR
     ·split at h
      ·rename_i r2 hr2;cases h;have hp:f8 P g a r:=f8.of_c2 hm h1 h2 (h3 (fun x H _=>SnapF H x r) (lq bT _ hr2));exact Fn.of_callOk (hp.callOk hs) hR
      ·split at h
       ·rename_i H3 cb;split at h
        ·rename_i a2 ha2;obtain ⟨q1,q2⟩:=cm ha2;split at h
         ·rename_i v2 H4 nx4 hcall2;obtain ⟨F2,k1,k2,k3⟩:=dJ hc hr hf0 hcall2;split at h
          ·rename_i r2 hr2;cases h;have hp:Pure P g a2 r:=Pure.of_c2 hm k1 k2 (k3 (fun x H _=>Snap H x r) (cK bT _ hr2));have hsubF:Sub (fun b=>match (cE H2 b).isSome with | true=>none | false=>cE H b) (fun b=>match (cE H2 b).isSome with | true=>none | false=>cE H b):=fun _ _ h=>h;refine Fn.of_pureZ (Hf:=fun b=>match (cE H2 b).isSome with | true=>none | false=>cE H b) hp (fun b cs hb=>?_) (fun b cs hb=>⟨gy cb b cs hb,?_⟩) ⟨q1,fun i x y hx hy=>cK hsubF _ (q2 i x y hx hy)⟩ hR
           ·split at hb
            ·cases hb
            ·exact bT b cs hb
           ·split
            ·rfl
            ·rename_i hn;have:=gy cb b cs hb;unfold cE at hn ⊢;unfold toH at hb this;cases hg:H2.get b with
             | none=>rw [hg] at hb; cases hb
             | some c =>
              cases c with
              | cells cs'=>rw [hg] at hn; cases hn
              | mark e =>
               cases hg2:H.get b with
               | none=>rfl
               | some c2=>cases c2 with
                | mark e2=>rfl
                | cells cs2=>exact absurd (jC cb hg) (by rw [hg2]; intro h; cases h)
          ·cases h
         ·cases h
        ·cases h
       ·cases h
    ·cases h
   ·cases h
  ·cases h
theorem uP {P:Program} {q:FuncId→List AV→Option AV} (hq:∀ (g:FuncId) (args:List AV) (r:AV),q g args=some r→Pure P g args r) {L:LV} {g:FuncId} {args:List AV} {H H2:HT} {nx nx':Nat} {r:AV} {R:AV→Hp→Nat→Prop} (h:sG q g args H nx=some (r,H2,nx')) (hR:R r (toH L H2) nx'):Fn P g args (toH L H) nx R:=by
 have n0:Sub a9 a9:=fun _ _ h=>h;unfold sG at h;split at h
 ·rename_i a ha;split at h
  ·rename_i r1 hr1;cases h;obtain ⟨o1,o2⟩:=cm ha;exact Fn.of_pure (hq _ _ _ hr1) (.inl ⟨o1,fun i x y hx hy=>cK n0 _ (o2 i x y hx hy)⟩) hR
  ·cases h
 ·split at h
  ·rename_i a ha;obtain ⟨o1,o2⟩:=cm ha;have hs:a7 (toH L H) args a:=⟨o1,fun i x y hx hy=>cK bT _ (o2 i x y hx hy)⟩
   split at h
   ·rename_i r1 hr1;split at h
    ·rename_i hsc;cases h;exact Fn.of_pure (hq _ _ _ hr1) (.inr ⟨hs,hsc⟩) hR
    ·split at h
     ·rename_i H3 cb;split at h
      ·rename_i a2 ha2;obtain ⟨q1,q2⟩:=cm ha2;split at h
       ·rename_i r2 hr2;cases h;have hsubF:Sub (fun b=>match (cE H2 b).isSome with | true=>none | false=>cE H b) (fun b=>match (cE H2 b).isSome with | true=>none | false=>cE H b):=fun _ _ h=>h;refine Fn.of_pureZ (Hf:=fun b=>match (cE H2 b).isSome with | true=>none | false=>cE H b) (hq _ _ _ hr2) (fun b cs hb=>?_) (fun b cs hb=>⟨gy cb b cs hb,?_⟩) ⟨q1,fun i x y hx hy=>cK hsubF _ (q2 i x y hx hy)⟩ hR
        ·split at hb
         ·cases hb
         ·exact bT b cs hb
        ·split
         ·rfl
         ·rename_i hn;have:=gy cb b cs hb;unfold cE at hn ⊢;unfold toH at hb this;cases hg:H2.get b with
          | none=>rw [hg] at hb; cases hb
          | some c =>
           cases c with
           | cells cs'=>rw [hg] at hn; cases hn
           | mark e =>
            cases hg2:H.get b with
            | none=>rfl
            | some c2=>cases c2 with
             | mark e2=>rfl
             | cells cs2=>exact absurd (jC cb hg) (by rw [hg2]; intro h; cases h)
       ·cases h
      ·cases h
     ·cases h
   ·cases h
  ·cases h
theorem vU {P:Program} {code:FuncId→Option F2} {pf:FuncId→Bool} {ct:CT} (hm:P.follows .mixedOrders=true) (hc:iK P code) (hct:CTok P ct) {rn:RN} (hr:RunOk P rn) {L:LV} {fr:List LFr} (hf:dG P L fr):CLok P L (lU code pf ct rn fr) (ke code rn) (rk rn fr) where
 cl:=fun {g args H H' nx nx' r R} h hR=>by
  unfold lU at h;split at h
  ·rename_i hx;split at h
   ·rename_i hset;cases h;rw [eZ hset] at hR;exact hct.c _ _ _ _ hx _ _ hR
   ·cases h
  split at h
  ·split at h
   ·rename_i hq;cases h;exact uP hct.q hq hR
   ·exact wM hm hc hr h hR
  ·obtain ⟨F,h1,h2,h3⟩:=dJ hc hr hf h;exact Fn.of_c2 hm h1 h2 (h3 _ hR)
 pc:=fun {g args H r} h=>v5 hm hc hr h
 yl:=fun {y args H H' nx nx' r R} h hR=>by
  unfold rk at h;split at h
  ·cases h
  ·rename_i F l hF;obtain ⟨rfl,hfr⟩:=rT hf hF;obtain ⟨hy,hl⟩:=hfr;split at h
   ·rename_i hg;split at h
    ·rename_i hlen;split at h
     ·cases h
     ·rename_i T1 hT1;split at h
      ·rename_i T2 H2 nx2 hrun;split at h
       ·rename_i hg2;split at h
        ·cases h
        ·rename_i H3 hdel3;split at h
         ·cases h
         ·rename_i e T4 H4 nx4 hrun2;refine hy args (toH L H) nx R (by simp only [toH,hg,bcL]) (jl hlen) ?_;rw [← vX hT1];refine hr.ok (K:=fun e T2 H2 nx2=>bk e (H2 F.y=some (L F.y none)∧aO P F.b T2 (cb H2 F.y) nx2 fun e T3 H3 nx3=>bk e (R (.bool true) (aj H3 F.y (L F.y none)) nx3) (R (.bool false) (aj H3 F.y (L F.y (some e))) nx3)) False) hl hrun ⟨by simp only [toH,hg2,bcL],?_⟩;rw [← pJ hdel3];refine hr.ok hl hrun2 ?_;cases e with
          | normal =>
           simp only at h;split at h
           ·rename_i H5 h5;cases h;rw [ka h5] at hR;exact hR
           ·cases h
          | exit i =>
           simp only at h;split at h
           ·rename_i H5 h5;cases h;rw [ka h5] at hR;exact hR
           ·cases h
          | ret =>
           simp only at h;split at h
           ·rename_i H5 h5;cases h;rw [ka h5] at hR;exact hR
           ·cases h
       ·cases h
      ·cases h
    ·cases h
   ·cases h
theorem jd {x:Option (TT × HT × Nat)} {e:AEx} {T:TT} {H:HT} {nx:Nat} (h:rH x=some (e,T,H,nx)):x=some (T,H,nx)∧e=.normal:=by
 unfold rH at h;split at h
 ·cases h; exact ⟨rfl,rfl⟩
 ·cases h
theorem vS {P:Program} {code:FuncId→Option F2} {pf:FuncId→Bool} {ct:CT} (hm:P.follows .mixedOrders=true) (hc:iK P code) (hct:CTok P ct):∀ n,RunOk P (run code pf ct n)
 | 0=>⟨fun _ h=>by cases h⟩
 | n + 1=>by
  refine ⟨?_⟩;intro L fr c T T' H H' nx nx' e K hf h hK;have ih:RunOk P (run code pf ct n):=vS hm hc hct n;have hk:=vU (pf:=pf) (ct:=ct) hm hc hct ih hf;cases c with
  | skip=>cases h; exact hK
  | exit i=>cases h; exact hK
  | ret=>cases h; exact hK
  | ops m l =>
   obtain ⟨h1,rfl⟩:=jd h;have:=gV hk (K:=K .normal) h1 hK;refine ⟨_,_,_,_,Gh.refl _ _ _,?_⟩;unfold AW at this;exact this
  | mix m l C =>
   simp only [run] at h;split at h
   ·obtain ⟨h1,rfl⟩:=jd h;exact .inr ⟨_,_,_,_,Gh.refl _ _ _,gV hk (K:=K .normal) h1 hK⟩
   ·rename_i hb;split at h
    ·rename_i x hx;obtain ⟨h1,rfl⟩:=jd h;cases h1;have:=gV hk (K:=K .normal) hx hK;refine .inl ⟨fun e=>?_,_,_,_,_,Gh.refl _ _ _,?_⟩
     ·subst e; cases hb
     ·unfold ua at this; exact this
    ·obtain ⟨h1,rfl⟩:=jd h;exact .inr ⟨_,_,_,_,Gh.refl _ _ _,gV hk (K:=K .normal) h1 hK⟩
  | mixS m l C =>
   simp only [run] at h;split at h
   ·rename_i x hx;split at hx
    ·cases hx
    ·rename_i hb;obtain ⟨h1,rfl⟩:=jd h;cases h1;have:=gV hk (K:=K .normal) hx hK;refine .inl ⟨fun e=>?_,_,_,_,_,Gh.refl _ _ _,?_⟩
     ·subst e; cases hb
     ·unfold ua at this; exact this
   ·split at h
    ·rename_i hkeep;obtain ⟨h1,rfl⟩:=jd h;exact .inr ⟨_,_,_,_,_,Gh.refl _ _ _,pu hkeep,fI hk (K:=K .normal) h1 hK⟩
    ·cases h
  | seq a b =>
   simp only [run] at h;split at h
   ·rename_i T1 H1 nx1 h1;exact dp (ih.ok (K:=fun e T H nx=>bk e (aO P b T H nx K) (K e T H nx)) hf h1 (ih.ok hf h hK))
   ·rename_i hne;refine dp (ih.ok (K:=fun e T H nx=>bk e (aO P b T H nx K) (K e T H nx)) hf h ?_);cases e with
    | normal=>exact absurd h (hne _ _ _)
    | exit i=>exact hK
    | ret=>exact hK
  | cond c a b =>
   simp only [run] at h;split at h
   ·rename_i hv;exact qe hv (ih.ok hf h hK)
   ·rename_i hv;exact ql hv (ih.ok hf h hK)
   ·cases h
  | block id b =>
   simp only [run] at h;split at h
   ·rename_i e1 T1 H1 nx1 h1;cases h;exact ef (ih.ok (K:=fun e T H nx=>K (iR id e) T H nx) hf h1 hK)
   ·cases h
  | loop b =>
   simp only [run] at h;split at h
   ·rename_i T1 H1 nx1 h1;obtain ⟨k,hl⟩:=ih.ok hf h hK;exact ⟨k + 1,_,_,_,_,Gh.refl _ _ _,ih.ok (K:=fun e T H nx=>bk e (lF (aO P b) K k T H nx) (K e T H nx)) hf h1 hl⟩
   ·rename_i hne;refine ⟨1,_,_,_,_,Gh.refl _ _ _,ih.ok (K:=fun e T H nx=>bk e (lF (aO P b) K 0 T H nx) (K e T H nx)) hf h ?_⟩;cases e with
    | normal=>exact absurd h (hne _ _ _)
    | exit i=>exact hK
    | ret=>exact hK
  | rangeF g ps a b =>
   simp only [run] at h;split at h
   ·rename_i f caps hg;split at h
    ·cases h
    ·rename_i hnone;split at h
     ·cases h
     ·rename_i H1 hset;split at h
      ·cases h
      ·rename_i v H2 nx2 hcall;split at h
       ·rename_i st hst;split at h
        ·cases h
        ·rename_i H3 hdel3;refine xa hg fun c0 cj hy=>?_
         let L':LV:=fun b e=>if b=nx then (match e with | none=>[c0] | some e=>[cj e]) else L b e
         have hL:∀ b e,b ≠ nx→L' b e=L b e:=fun b e hb=>if_neg hb;have hn:L' nx none=[c0]:=if_pos rfl;have hs:∀ e,L' nx (some e)=[cj e]:=fun e=>if_pos rfl
         have hf':dG P L' (⟨nx,ps,a,b,T⟩ :: fr):=by
          refine ⟨?_,nY hL hf hnone⟩;intro args H' nx' K' h1 h2 h3;simp only [hn,hs] at h1 h3;exact hy args H' nx' K' h1 h2 h3
         have e1:aj (toH L H) nx [c0]=toH L' H1:=by
          rw [ka hset,hn]
          funext m
          simp only [aj];split
          ·rfl
          ·rename_i hm;simp only [toH];cases H.get m with
           | none=>rfl
           | some x=>cases x with
            | cells cs=>rfl
            | mark e=>simp only [bcL,hL m e hm]
         have e2:cb (toH L' H2) nx=toH L H3:=by
          rw [pJ hdel3]
          funext m
          simp only [cb];split
          ·rfl
          ·rename_i hm;simp only [toH];cases H2.get m with
           | none=>rfl
           | some x=>cases x with
            | cells cs=>rfl
            | mark e=>simp only [bcL,hL m e hm]
         rw [e1];obtain ⟨F,k1,k2,k3⟩:=dJ hc ih hf' hcall;refine Fn.of_c2 hm k1 k2 (k3 _ ?_);cases st with
         | none =>
          cases h;left;refine ⟨by simp only [toH,hst,bcL,hn],?_⟩;rw [e2]; exact hK
         | some e1' =>
          simp only at h;split at h
          ·cases h
          ·rename_i hnn;cases h;right;refine ⟨e,(fun hh=>by rw [hh] at hnn; cases hnn),by simp only [toH,hst,bcL,hs],?_⟩;rw [e2]; exact hK
       ·cases h
   ·cases h
def yS (code:FuncId→Option F2) (pf:FuncId→Bool) (ct:CT) (n:Nat) (f:FuncId) (args:List AV) (good:AV→Bool):Bool :=
 match jy code (run code pf ct n) [] f args .leaf 0 with
 | some (v,H',_)=>match snapV (cE H') SF v with
  | some r=>good r
  | none=>false
 | none=>false
theorem Pure.of_runC {P:Program} {code:FuncId→Option F2} {pf:FuncId→Bool} {ct:CT} (hm:P.follows .mixedOrders=true) (hc:iK P code) (hct:CTok P ct) {n:Nat} {f:FuncId} {args:List AV} {good:AV→Bool} {r:AV} (h:yS code pf ct n f args good=true) (hg:∀ x,good x=true→x=r):Pure P f args r:=by
 unfold yS at h;split at h
 ·rename_i v H' nx' hcall;split at h
  ·rename_i r1 hr1;have:=hg _ h;subst this;obtain ⟨F,h1,h2,h3⟩:=dJ hc (vS hm hc hct n) (L:=L0) (fr:=[]) trivial hcall;exact Pure.of_c2 hm h1 h2 (h3 (fun x H _=>Snap H x r1) (cK bT _ hr1))
  ·cases h
 ·cases h
theorem Pure.of_run {P:Program} {code:FuncId→Option F2} {pf:FuncId→Bool} (hm:P.follows .mixedOrders=true) (hc:iK P code) {n:Nat} {f:FuncId} {args:List AV} {good:AV→Bool} {r:AV} (h:yS code pf AD n f args good=true) (hg:∀ x,good x=true→x=r):Pure P f args r :=
 Pure.of_runC hm hc xx h hg
def isTrue:AV→Bool | .bool true=>true | _=>false
theorem uw:∀ x,isTrue x=true→x=.bool true:=by
 intro x h;cases x <;> try (cases h; done)
 rename_i b;cases b
 ·cases h
 ·rfl
def lookup:List (Nat × F2)→FuncId→Option F2
 | [],_=>none
 | (k,F) :: l,f=>match Nat.beq k f with
  | true=>some F
  | false=>lookup l f
theorem uD {P:Program}:iK P (lookup []):=fun h=>by cases h
theorem an {P:Program} {k:Nat} {F:F2} {l:List (Nat × F2)} (h:Is P k F) (hs:iK P (lookup l)):iK P (lookup ((k,F) :: l)):=fun {f F'} hf=>by
 simp only [lookup] at hf;split at hf
 ·rename_i e;cases hf;rw [jl e] at h;exact h
 ·exact hs hf
end Go.Abs
namespace Go.Abs
open Go Go.RowKit
def oE (W:World):Nat→Prop:=fun b=>b < W.heap.size
theorem uW {W:World} {a:Addr} {v:Value} (h:W.cell? a=some v):oE W a.block∧a.spot=none:=by
 unfold World.cell? at h;unfold oE;cases hb:W.heap[a.block]? with
 | none=>simp [hb] at h
 | some o =>
  refine ⟨(fl.1 hb).1,?_⟩;cases hs:a.spot with
  | none=>rfl
  | some s=>cases o <;> simp [hb,hs] at h
section
variable {H:Type} {enc:TypeId × Value→H} {P:Program} {W:World}
def dE (enc:TypeId × Value→H) (P:Program) (W:World) (t:TypeId) {α:Type} (f:α→AV) (good:α→Prop):Prop :=
 ∀ (n:Nat) (cs:List Value) (x:DataW H × List MemPlace),DataW.trod enc P W 0 (fun _=>true) true n t cs=some x→(∀ k ∈ x.1.weights P t,k ≤ reachBytes)→∃ a:α,good a∧cA (E0 (oE W)) W (f a).cells cs
theorem dE.mono {t:TypeId} {α:Type} {f:α→AV} {good good':α→Prop} (h:dE enc P W t f good) (hg:∀ a,good a→good' a):dE enc P W t f good' :=
 fun n cs x hx hw=>let ⟨a,h1,h2⟩:=h n cs x hx hw; ⟨a,hg a h1,h2⟩
theorem mG {E:Env} {w:World} {x:AV} {y:Value} (h:Rel E w x y):cA E w [x] [y]:=⟨rfl,fun i a b ha hb=>by
 cases i with
 | zero=>simp at ha hb; subst ha hb; exact h
 | succ i=>simp at ha⟩
theorem cA.app {E:Env} {w:World} {xs xs':List AV} {ys ys':List Value} (h:cA E w xs ys) (h':cA E w xs' ys'):cA E w (xs ++ xs') (ys ++ ys'):=by
 have hl:xs.length=ys.length:=h.1.symm;refine ⟨by simp [h.1,h'.1],fun i a b ha hb=>?_⟩;by_cases hi:i < xs.length
 ·rw [eO hi] at ha;rw [eO (by omega)] at hb;exact h.2 i a b ha hb
 ·rw [fj (by omega)] at ha;rw [fj (by omega)] at hb;rw [hl] at ha;exact h'.2 _ a b ha hb
theorem pm {t:TypeId} {k:IntKind} (ht:P.underlying t=some (.int k)):dE enc P W t (AV.int k) (fun n=>(Lit.int k n).wf=true):=fun n cs x hx _=>by
 obtain ⟨a,rfl,rfl,hw⟩:=DataW.trod_int ht hx;exact ⟨a,hw,mG (.int _ _)⟩
theorem nX {e:TypeId} {l:List (DataW H)} {d:DataW H} (h:d ∈ l) {k:Nat} (hk:k ∈ d.weights P e):k ∈ DataW.weightsAll P e l:=by
 induction l with
 | nil=>cases h
 | cons a l ih =>
  unfold DataW.weightsAll;rcases ij.1 h with rfl | h
  ·exact List.mem_append_left _ hk
  ·exact List.mem_append_right _ (ih h)
theorem rj {α:Type} {len:Nat} {Q:Nat→α→Prop} (h:∀ i,i < len→∃ a,Q i a):∃ l:List α,l.length=len∧∀ i a,l[i]?=some a→Q i a:=by
 induction len with
 | zero=>exact ⟨[],rfl,fun i a h=>by simp at h⟩
 | succ n ih =>
  obtain ⟨l,h1,h2⟩:=ih (fun i hi=>h i (by omega));obtain ⟨a,ha⟩:=h n (by omega);refine ⟨l ++ [a],by simp [h1],fun i b hb=>?_⟩;by_cases hi:i < l.length
  ·rw [eO hi] at hb; exact h2 i b hb
  ·rw [fj (by omega)] at hb
   have:i - l.length=0:=by
    by_cases h0:i - l.length=0
    ·exact h0
    ·rw [List.getElem?_eq_none (by simp; omega)] at hb; cases hb
   rw [this] at hb; simp at hb; subst hb;have:i=n:=by omega
   subst this; exact ha
theorem l4 {t e:TypeId} {sz by_:Nat} {α:Type} {f:α→AV} {good:α→Prop} (ht:P.underlying t=some (.slice e)) (hsz:P.cellsOf e=sz) (hby:P.bytesOf e=by_) (hpos:0 < sz) (hc:∀ a,(f a).cells.length=sz)
    (he:dE enc P W e f good):dE enc P W t (fS sz f) (fun l=>(∀ a ∈ l,good a)∧l.length ≤ 9223372036854775807∧l.length * by_ ≤ 140737488351232):=fun n cs x hx hw=>by
 rcases Go.Deep.open_slice ht hx with ⟨rfl,rfl⟩ | ⟨a,len,cap,m,n',D,Pl,rfl,hb,hlc,hcm,hm,hxe,hel⟩
 ·exact ⟨[],⟨fun _ h=>(by cases h),by simp,by simp⟩,mG (.slnil _)⟩
 simp only [if_true] at hm;subst hxe;subst hm;have hw':∀ k ∈ ((DataW.slice (H:=H) ((List.range len).map D) ((List.range (m - len)).map fun j=>D (len + j))).weights P t),k ≤ reachBytes:=hw;simp only [DataW.weights,ht] at hw';have hlen:(((List.range len).map D).length + ((List.range (m - len)).map fun j=>D (len + j)).length) * P.bytesOf e ≤ reachBytes:=hw' _ (qj ..)
 have hbd:len * by_ ≤ 140737488351232:=by
  rw [hby] at hlen;simp only [dt,List.length_range] at hlen;have h1:len * by_ ≤ (len + (m - len)) * by_:=gU _ (by omega);have h2:reachBytes=140737488351232:=rfl;omega
 have hlm:len ≤ 9223372036854775807:=dQ hlc hcm
 have key:∀ i,i < len→∃ a':α,good a'∧∃ cs',W.cells? 0 (a.add (i * sz)) sz=some cs'∧cA (E0 (oE W)) W (f a').cells cs':=fun i hi=>by
  obtain ⟨cs',h1,h2⟩:=hel i (by omega);rw [hsz] at h1;obtain ⟨a',g1,g2⟩:=he n' cs' _ h2 (fun k hk=>hw' k (List.mem_cons_of_mem _ (List.mem_append_left _ (nX (eE.2 ⟨i,ml.2 hi,rfl⟩) hk))));exact ⟨a',g1,cs',h1,g2⟩
 obtain ⟨l,hl,hq⟩:=rj key;refine ⟨l,⟨fun x hx=>?_,by omega,by rw [hl]; exact hbd⟩,mG ?_⟩
 ·obtain ⟨i,hi⟩:=List.getElem?_of_mem hx;exact (hq i x hi).1
 by_cases h0:len=0
 ·subst h0;have:l=[]:=eF.1 hl;subst this;exact .slempty _ _ _
 have hcell:∀ i j,i < len→j < sz→∃ v,W.cell? ((a.add (i * sz)).add j)=some v:=fun i j hi hj=>by
  obtain ⟨a',_,cs',h1,h2⟩:=key i hi;unfold World.cells? at h1;rw [if_pos (cP _)] at h1;have h3:=mapM_some_get h1 j j (by simp [hj])
  have h4:j < cs'.length:=by
   have:=mapM_some_length h1;simp at this; omega
  exact ⟨cs'[j],by rw [h3]; simp [h4]⟩
 obtain ⟨v0,hv0⟩:=hcell 0 0 (by omega) hpos;have ho:=uW hv0;simp only [Nat.zero_mul,Addr.add,if_true] at ho;obtain ⟨blk,off,sp⟩:=a;obtain ⟨ho,hsp⟩:=ho;simp only at hsp ho;subst hsp
 have hadd:∀ i j,((⟨blk,off,none⟩:Addr).add (i * sz)).add j=⟨blk,off + (i * sz + j),none⟩:=fun i j=>by
  rw [bJ,bJ,Nat.add_assoc]
 have hcell':∀ k,k < len * sz→∃ v,W.cell? ⟨blk,off + k,none⟩=some v:=fun k hk=>by
  have h1:k / sz < len:=Nat.div_lt_of_lt_mul (by rw [Nat.mul_comm]; exact hk);have h2:k % sz < sz:=Nat.mod_lt _ hpos;obtain ⟨v,hv⟩:=hcell (k / sz) (k % sz) h1 h2;rw [hadd,Nat.div_add_mod'] at hv;exact ⟨v,hv⟩
 have hlen2:(l.map f).length=len:=by simp [hl]
 have:=Rel.sl (E:=E0 (oE W)) (w:=W) sz (l.map f) blk off m (fun k=>(W.cell? ⟨blk,off + k,none⟩).getD Go.undef) ho (by rw [hlen2]; exact hlc)
  (fun x hx=>by obtain ⟨b,_,rfl⟩:=eE.1 hx; exact hc b)
  (fun k hk=>by
   rw [hlen2] at hk;obtain ⟨v,hv⟩:=hcell' k hk;simp only [hv,Option.getD_some])
  (fun i j x y hx hy=>by
   rw [jH,Option.map_eq_some_iff] at hx;obtain ⟨a',ha',rfl⟩:=hx;obtain ⟨_,cs',h1,h2⟩:=hq i a' ha'
   have hj:j < sz:=by
    have:=(bj.1 hy).1
    rwa [hc] at this
   have hi:i < len:=by
    have:=(bj.1 ha').1;omega
   unfold World.cells? at h1;rw [if_pos (cP _)] at h1;have h3:=mapM_some_get h1 j j (by simp [hj])
   have h4:j < cs'.length:=by
    have:=mapM_some_length h1;simp at this; omega
   rw [hadd] at h3;have h5:cs'[j]?=some cs'[j]:=by simp [h4]
   rw [h5] at h3;simp only [h3,Option.getD_some];exact h2.2 j y _ hy h5)
 rw [hlen2] at this;exact this
def pW (enc:TypeId × Value→H) (P:Program) (W:World) (fs:List Field) (off:Nat) {α:Type} (g:α→List AV) (good:α→Prop):Prop :=
 ∀ (n tot:Nat) (cs:List Value) (ys:List (DataW H × List MemPlace)),ys.length=fs.length→(∀ (i:Nat) (f:Field),fs[i]?=some f→DataW.trod enc P W 0 (fun _=>true) true n f.type ((cs.drop f.offset).take (P.cellsOf f.type))=ys[i]?) →
  (∀ k ∈ DataW.weightsEach P (fs.map fun f:Field=>f.type) (ys.map (·.1)),k ≤ reachBytes)→cs.length=tot→tot=off + (fs.map fun f:Field=>P.cellsOf f.type).sum→∃ a:α,good a∧cA (E0 (oE W)) W (g a) (cs.drop off)
theorem oh {off:Nat}:pW enc P W [] off (fun _:Unit=>[]) (fun _=>True):=fun n tot cs ys _ _ _ h1 h2=>by
 refine ⟨(),trivial,?_⟩;rw [List.drop_eq_nil_of_le (by simp at h2; omega)];exact ⟨rfl,fun i a b h=>by simp at h⟩
theorem i7 {fd:Field} {fs:List Field} {off off':Nat} {α β:Type} {f:α→AV} {g:β→List AV} {good:α→Prop} {good':β→Prop} (ho:fd.offset=off) (ho':off + P.cellsOf fd.type=off')
    (h:dE enc P W fd.type f good) (h':pW enc P W fs off' g good'):pW enc P W (fd :: fs) off (fun a:α × β=>(f a.1).cells ++ g a.2) (fun a=>good a.1∧good' a.2):=fun n tot cs ys hl hy hw h1 h2=>by
 obtain ⟨y,ys,rfl⟩:∃ y ys',ys=y :: ys':=by
  cases ys with
  | nil=>simp at hl
  | cons y ys=>exact ⟨y,ys,rfl⟩
 have hy0:=hy 0 fd rfl;simp only [ot] at hy0;rw [ho] at hy0;simp only [im,DataW.weightsEach] at hw;obtain ⟨a,g1,g2⟩:=h n _ y hy0 (fun k hk=>hw k (List.mem_append_left _ hk));simp only [im,List.sum_cons] at h2
 obtain ⟨b,g3,g4⟩:=h' n tot cs ys (by simpa using hl) (fun i f hf=>by
  have:=hy (i + 1) f (by simpa using hf);simpa using this) (fun k hk=>hw k (List.mem_append_right _ hk)) h1 (by omega)
 refine ⟨(a,b),⟨g1,g3⟩,?_⟩
 have e:cs.drop off=(cs.drop off).take (P.cellsOf fd.type) ++ cs.drop off':=by
  rw [← ho',← List.drop_drop,List.take_append_drop]
 rw [e];exact cA.app g2 g4
theorem jT {t:TypeId} {fs:Array Field} {α:Type} {g:α→List AV} {good:α→Prop} (ht:P.underlying t=some (.struct fs)) (hsum:P.cellsOf t=(fs.toList.map fun f:Field=>P.cellsOf f.type).sum)
    (h:pW enc P W fs.toList 0 g good):dE enc P W t (fun a=>.agg (g a)) good:=fun n cs x hx hw=>by
 obtain ⟨ys,n',rfl,rfl,hl,hs,hy⟩:=DataW.trod_struct ht hx
 obtain ⟨a,g1,g2⟩:=h n' _ cs ys (by rw [hs]; simp) (fun i f hf=>hy i f (by simpa using hf)) (fun k hk=>hw k (by
  simp only [DataW.weights,ht]; exact hk)) hl (by rw [bU,hsum])
 exact ⟨a,g1,by rw [List.drop_zero] at g2; exact g2⟩
theorem dE.map {t:TypeId} {α β:Type} {f:α→AV} {good:α→Prop} {f':β→AV} {good':β→Prop} (h:dE enc P W t f good) (φ:α→β) (hg:∀ a,good a→good' (φ a)) (hf:∀ a,good a→(f' (φ a)).cells=(f a).cells):dE enc P W t f' good':=fun n cs x hx hw=>by
 obtain ⟨a,h1,h2⟩:=h n cs x hx hw;exact ⟨φ a,hg a h1,by rw [hf a h1]; exact h2⟩
theorem dE.at {t u:TypeId} {α:Type} {f:α→AV} {good:α→Prop} (e:t=u) (h:dE enc P W u f good):dE enc P W t f good:=e ▸ h
theorem dE.argA {t:TypeId} {α:Type} {f:α→AV} {good:α→Prop} (h:dE enc P W t f good) {r:Reach} {base:Nat} {v:Value} {d:DataW H} {ps:List MemPlace} (ht:kr P t=true) (hf:∀ a,∃ cs,f a=.agg cs)
    (hval:Value.okWide P W r base t v) (hd:DataW.Trod enc P W 0 (fun _=>true) true t v d ps) (hw:∀ k ∈ d.weights P t,k ≤ reachBytes):∃ a,good a∧Rel (E0 (oE W)) W (f a) v:=by
 obtain ⟨n,hn⟩:=hd;obtain ⟨a,h1,h2⟩:=h n _ _ hn hw;refine ⟨a,h1,?_⟩
 obtain ⟨cs,hcs,_⟩:∃ cs,v=.agg cs∧True:=by
  unfold Value.okWide at hval;unfold kr at ht;split at hval
  ·obtain ⟨cs,h,_⟩:=hval; exact ⟨cs,h,trivial⟩
  ·obtain ⟨cs,h,_⟩:=hval; exact ⟨cs,h,trivial⟩
  ·rename_i k1 k2;revert ht;cases hu:P.underlying t with
   | none=>simp
   | some u =>
    cases u with
    | struct fs=>exact absurd hu (k1 fs)
    | array m e=>exact absurd hu (k2 m e)
    | _=>simp
 subst hcs;obtain ⟨xs,hx⟩:=hf a;rw [hx] at h2 ⊢;exact .agg xs cs.toList h2.1 h2.2
theorem dE.arg1 {t:TypeId} {α:Type} {f:α→AV} {good:α→Prop} (h:dE enc P W t f good) {v:Value} {d:DataW H} {ps:List MemPlace} (hf:∀ a,(f a).cells=[f a]) (hv:v.cells=#[v])
    (hd:DataW.Trod enc P W 0 (fun _=>true) true t v d ps) (hw:∀ k ∈ d.weights P t,k ≤ reachBytes):∃ a,good a∧Rel (E0 (oE W)) W (f a) v:=by
 obtain ⟨n,hn⟩:=hd;obtain ⟨a,h1,h2⟩:=h n _ _ hn hw;rw [hf,hv] at h2;exact ⟨a,h1,h2.2 0 _ _ rfl rfl⟩
theorem uY {t:TypeId} {r:Reach} {base:Nat} {v:Value} (ht:kr P t=false) (hval:Value.okWide P W r base t v):v.cells=#[v]:=by
 cases v <;> try rfl
 rename_i cs;exfalso;unfold Value.okWide at hval;unfold kr at ht;cases hu:P.underlying t with
 | none=>simp only [hu,Cell.okWide,Cell.ok] at hval
 | some u =>
  rw [hu] at ht;cases u <;> simp only [hu,Cell.okWide,Cell.ok] at hval <;> simp at ht
theorem jA (hl:laidOutB P=true) {W':World} (hb:Below W.heap.size W W') {sp:Nat→Bool}:∀ {ts:List TypeId} {vs:List Value} {ds:List (DataW H)} {ps:List MemPlace},(∀ t ∈ ts,P.readableRec t=true∧t < P.types.size) →
    DataW.TrodAll enc P W 0 (fun _=>true) true ts vs ds ps→(∀ p ∈ ps,p.block < W.heap.size)→(∀ p ∈ ps,sp p.block=true)→DataW.TrodAll enc P W' 0 sp true ts vs ds ps
 | [],[],[],ps,_,h,_,_=>h
 | t :: ts,v :: vs,d :: ds,ps,hr,⟨p,q,h1,h2,e⟩,hlt,hsp=>by
  subst e
  exact ⟨p,q,WideElems.Trod_stays hl (hr t (qj ..)).1 (hr t (qj ..)).2 h1 (fun x hx=>hb.same (hlt x (List.mem_append_left _ hx))) (fun x hx=>hsp x (List.mem_append_left _ hx)),
   jA hl hb (fun t ht=>hr t (List.mem_cons_of_mem _ ht)) h2 (fun x hx=>hlt x (List.mem_append_right _ hx)) (fun x hx=>hsp x (List.mem_append_right _ hx)),rfl⟩
 | [],_ :: _,_,_,_,h,_,_=>h.elim
 | [],[],_ :: _,_,_,h,_,_=>h.elim
 | _ :: _,[],_,_,_,h,_,_=>h.elim
 | _ :: _,_ :: _,[],_,_,h,_,_=>h.elim
theorem i9:∀ {ts:List TypeId} {ds:List (DataW H)} {i:Nat} {t:TypeId} {d:DataW H},ts[i]?=some t→ds[i]?=some d→∀ k ∈ d.weights P t,k ∈ DataW.weightsEach P ts ds
 | t :: ts,d :: ds,0,_,_,h1,h2,k,hk=>by
  simp at h1 h2; subst h1 h2;unfold DataW.weightsEach;exact List.mem_append_left _ hk
 | t :: ts,d :: ds,i + 1,_,_,h1,h2,k,hk=>by
  unfold DataW.weightsEach;exact List.mem_append_right _ (i9 (ts:=ts) (ds:=ds) (by simpa using h1) (by simpa using h2) k hk)
 | [],_,i,_,_,h1,_,_,_=>by simp at h1
 | _ :: _,[],i,_,_,_,h2,_,_=>by simp at h2
end
end Go.Abs
namespace Go.Proofs.Ytpfkjcjgdilkkaa
open Go Go.Abs Go.Abs.C2 Go.Abs.Ins Go.Abs.Opd Go.Abs.TK Go.Abs.MK
def cO (d:Nat) (i:Ins):Op2:=Op2.mk (some d) none i
def cG (d g:Nat) (b:Bool) (i:Ins):Op2:=Op2.mk (some d) (some (g,b)) i
def cN (k:Int):Opd:=Opd.c (AV.int IntKind.i64 k)
def cM (n:Nat):Ins:=Ins.mov (Opd.t n)
def cD (n:Nat):Ins:=Ins.ld1 (Opd.t n)
def cF (n:Nat):Opd:=Opd.c (AV.func n [])
def cB (o:BinOp) (x y:Opd):Ins:=Ins.bin o false false x y
def be:Opd:=Opd.c (AV.bool false)
def eN:Opd:=Opd.c (AV.bool true)
def aa (d s:Nat):Op2:=Op2.mk (some d) none (Ins.mov (Opd.t s))
def aP (d s:Nat):Op2:=Op2.mk (some d) none (Ins.ld1 (Opd.t s))
def aS (d n s:Nat):Op2:=Op2.mk (some d) none (Ins.ldn n (Opd.t s))
def bq (d s:Nat):Op2:=Op2.mk (some d) none (Ins.lenS (Opd.t s))
def cp (d n s:Nat):Op2:=Op2.mk (some d) none (Ins.fa n (Opd.t s))
def cf (d s n:Nat):Op2:=Op2.mk (some d) none (Ins.ext (Opd.t s) n)
def aN (d f:Nat) (l:List Opd):Op2:=Op2.mk (some d) none (Ins.call (Opd.c (AV.func f [])) l)
def aF (d:Nat) (o:BinOp) (x y:Nat):Op2:=Op2.mk (some d) none (Ins.bin o false false (Opd.t x) (Opd.t y))
def ao (d:Nat) (o:BinOp) (x:Nat) (y:Int):Op2:=Op2.mk (some d) none (Ins.bin o false false (Opd.t x) (Opd.c (AV.int IntKind.i64 y)))
def aW (n p v:Nat):Op2:=Op2.mk none none (Ins.st n (Opd.t p) (Opd.t v))
def dx (d g:Nat) (i:Ins):Op2:=Op2.mk (some d) (some (g,false)) i
def ah (d g:Nat) (i:Ins):Op2:=Op2.mk (some d) (some (g,true)) i
def az (n:Nat) (x y:C2):C2:=C2.cond (Opd.t n) x y
def ab (l:List Op2) (x:C2):C2:=C2.seq (C2.ops 0 l) x
def bE:AV:=AV.int IntKind.i64 0
theorem aK:(∀ (d:Nat) (i:Ins),cO d i=Op2.mk (some d) none i)∧(∀ (d g:Nat) (b:Bool) (i:Ins),cG d g b i=Op2.mk (some d) (some (g,b)) i)∧(∀ (k:Int),cN k=Opd.c (AV.int IntKind.i64 k))∧(∀ (n:Nat),cM n=Ins.mov (Opd.t n))∧(∀ (n:Nat),cD n=Ins.ld1 (Opd.t n))∧(∀ (n:Nat),cF n=Opd.c (AV.func n []))∧(∀ (o:BinOp) (x y:Opd),cB o x y=Ins.bin o false false x y)∧(be=Opd.c (AV.bool false))∧(eN=Opd.c (AV.bool true))∧(∀ (d s:Nat),aa d s=Op2.mk (some d) none (Ins.mov (Opd.t s)))∧(∀ (d s:Nat),aP d s=Op2.mk (some d) none (Ins.ld1 (Opd.t s)))∧(∀ (d n s:Nat),aS d n s=Op2.mk (some d) none (Ins.ldn n (Opd.t s)))∧(∀ (d s:Nat),bq d s=Op2.mk (some d) none (Ins.lenS (Opd.t s)))∧(∀ (d n s:Nat),cp d n s=Op2.mk (some d) none (Ins.fa n (Opd.t s)))∧(∀ (d s n:Nat),cf d s n=Op2.mk (some d) none (Ins.ext (Opd.t s) n))∧(∀ (d f:Nat) (l:List Opd),aN d f l=Op2.mk (some d) none (Ins.call (Opd.c (AV.func f [])) l))∧(∀ (d:Nat) (o:BinOp) (x y:Nat),aF d o x y=Op2.mk (some d) none (Ins.bin o false false (Opd.t x) (Opd.t y)))∧(∀ (d:Nat) (o:BinOp) (x:Nat) (y:Int),ao d o x y=Op2.mk (some d) none (Ins.bin o false false (Opd.t x) (Opd.c (AV.int IntKind.i64 y))))∧(∀ (n p v:Nat),aW n p v=Op2.mk none none (Ins.st n (Opd.t p) (Opd.t v)))∧(∀ (d g:Nat) (i:Ins),dx d g i=Op2.mk (some d) (some (g,false)) i)∧(∀ (d g:Nat) (i:Ins),ah d g i=Op2.mk (some d) (some (g,true)) i)∧(∀ (n:Nat) (x y:C2),az n x y=C2.cond (Opd.t n) x y)∧(∀ (l:List Op2) (x:C2),ab l x=C2.seq (C2.ops 0 l) x)∧(bE=AV.int IntKind.i64 0):=⟨fun _ _=>rfl,fun _ _ _ _=>rfl,fun _=>rfl,fun _=>rfl,fun _=>rfl,fun _=>rfl,fun _ _ _=>rfl,rfl,rfl,fun _ _=>rfl,fun _ _=>rfl,fun _ _ _=>rfl,fun _ _=>rfl,fun _ _ _=>rfl,fun _ _ _=>rfl,fun _ _ _=>rfl,fun _ _ _ _=>rfl,fun _ _ _ _=>rfl,fun _ _ _=>rfl,fun _ _ _=>rfl,fun _ _ _=>rfl,fun _ _ _=>rfl,fun _ _=>rfl,rfl⟩
theorem follows:Try.prog.follows .mixedOrders=true:=by rfl
def b3:F2:=(F2.mk 129 [RV.t 4] (ab [cO 2 (box (t 0)),cO 4 (mov be)] ((ab [aN 22 4 [],cO 23 (un UnOp.not (t 22))] (az 23 (ab [cO 4 (mov be)] ret) skip)).seq ((ab [aS 24 1 2,aN 25 5 [t 24],cO 26 (un UnOp.not (t 25)),aa 27 26,dx 28 27 (fa 0 (t 2)),dx 29 27 (cD 28),dx 30 27 (lenS (t 29)),dx 31 27 (cB .eql (t 30) (cN 0)),cO 32 (pick (t 27) eN (t 31))] (az 32 (ab [cO 4 (mov eN)] ret) skip)).seq ((ops 1 [cp 33 0 2,aP 34 33,aa 35 1,cO 36 (conv IntKind.i64 (t 35)),cp 37 0 2,aP 38 37,bq 39 38,aF 40 .rem 36 39,cO 41 (ixaS 1 (t 34) (t 40)),aP 42 41,aa 5 42]).seq ((ab [cO 6 (mov (cN 1))] (block 0 ((ab [aa 43 6,aa 44 5,bq 45 44,cO 46 (cB .shl (cN 1) (t 45)),aF 47 .lss 43 46] (az 47 skip (exit 0))).seq ((block 1 (ab [cO 7 (mov (c AV.esl))] ((ab [aa 50 5,bq 51 50,cO 52 (mov (cN 0))] (block 2 (ab [aF 53 .lss 52 51] ((az 53 skip (exit 2)).seq ((block 3 (ab [aa 54 52,cO 55 (ixaS 2 (t 50) (t 52)),aS 56 2 55,cO 9 (alloc (AV.agg [bE,bE])),aa 8 54,aW 2 9 56] (ab [aa 57 6,aa 58 8,aF 59 .shr 57 58,ao 60 .and 59 1,ao 61 .eql 60 1] (az 61 (ops 0 [aa 62 7,aS 63 2 9,cO 64 (bldS 2 1 [bE,bE] [(0,2,t 63)]),cO 65 (app 2 16 (t 62) (t 64)),aa 7 65]) skip)))).seq (ops 0 [ao 66 .add 52 1,aa 52 66])))).loop)).seq (ab [aS 68 1 2,aa 69 7,aN 70 6 [t 68,t 69],aa 67 70,cf 71 67 0,cf 72 67 1,cO 10 (alloc (AV.agg [AV.esl])),aW 1 10 71,aa 11 72] (ab [aS 74 1 2,aa 75 7,aN 76 7 [t 74,t 75],aa 73 76,cf 77 73 0,cf 78 73 1,cO 12 (alloc (AV.agg [AV.esl])),aW 1 12 77,aa 13 78] (ab [aa 80 7,cO 81 (bldS 1 1 [AV.esl] [(0,1,t 80)]),cO 82 (bld [AV.esl] [(0,1,t 81)]),aS 83 1 12,aN 84 8 [t 82,t 83],aa 79 84,cf 85 79 0,cf 86 79 1,cO 14 (alloc (AV.agg [AV.esl])),aW 1 14 85,aa 15 86] ((ab [aa 87 11,aa 88 13,aF 89 .add 87 88,aa 90 15,aF 91 .add 89 90,ao 92 .neq 91 0,aa 93 92,dx 94 93 (ldn 1 (t 10)),dx 95 93 (ldn 1 (t 14)),dx 96 93 (call (cF 9) [t 94,t 95]),dx 97 93 (un UnOp.not (t 96)),cO 98 (pick (t 93) eN (t 97))] (az 98 (ab [cO 4 (mov be)] ret) skip)).seq (ab [aa 99 7,bq 100 99,cO 101 (mov (cN 0))] (block 4 (ab [aF 102 .lss 101 100] ((az 102 skip (exit 4)).seq ((block 5 (ab [cO 103 (ixaS 2 (t 99) (t 101)),aS 104 2 103,cO 17 (alloc (AV.agg [bE,bE])),aW 2 17 104] (ab [aS 106 1 2,aS 107 2 17,cO 108 (bldS 2 1 [bE,bE] [(0,2,t 107)]),aN 109 6 [t 106,t 108],aa 105 109,cf 110 105 0,cf 111 105 1,cO 18 (alloc (AV.agg [AV.esl])),aW 1 18 110,aa 19 111] (ab [aS 113 1 18,aS 114 1 10,aN 115 10 [t 113,t 114],aa 112 115,cf 116 112 0,cf 117 112 1,cO 20 (alloc (AV.agg [AV.esl])),aW 1 20 116,aa 21 117] (ab [aa 118 19,aa 119 21,aF 120 .add 118 119,ao 121 .neq 120 0,aa 122 121,dx 123 122 (ldn 1 (t 20)),dx 124 122 (ldn 1 (t 18)),dx 125 122 (call (cF 9) [t 123,t 124]),dx 126 122 (un UnOp.not (t 125)),cO 127 (pick (t 122) eN (t 126))] (az 127 (ab [cO 4 (mov be)] ret) skip)))))).seq (ops 0 [ao 128 .add 101 1,aa 101 128])))).loop))))))))).seq (ops 0 [aa 48 6,ao 49 .add 48 1,aa 6 49]))).loop)).seq (ab [cO 4 (mov eN)] ret)))))))
theorem is3:Is Try.prog 3 b3:=Is.mk' Try.func3 (by kernel_rfl)
def b4:F2:=(F2.mk 77 [RV.t 0] (ab [cO 0 (mov be)] (ab [cO 10 (bld [bE,bE] []),cO 11 (bld [bE,bE] [(0,1,cN ((1)))]),cO 12 (bld [bE,bE] [(0,1,cN ((2)))]),cO 1 (alloc (AV.agg [bE,bE])),cO 2 (alloc (AV.agg [bE,bE])),cO 3 (alloc (AV.agg [bE,bE])),aW 2 1 10,aW 2 2 11,aW 2 3 12] (ab [aS 13 2 1,aS 14 2 2,aS 15 2 3,cO 16 (bldS 2 3 [bE,bE] [(0,2,t 13),(2,2,t 14),(4,2,t 15)]),aS 17 2 1,aS 18 2 2,aS 19 2 1,cO 20 (bldS 2 3 [bE,bE] [(0,2,t 17),(2,2,t 18),(4,2,t 19)]),cO 21 (bld [AV.esl,AV.esl] [(0,1,t 16),(1,1,t 20)]),cO 4 (alloc (AV.agg [AV.esl,AV.esl])),aW 2 4 21] (ab [aS 22 2 1,aS 23 2 2,aS 24 2 3,cO 25 (bldS 2 3 [bE,bE] [(0,2,t 22),(2,2,t 23),(4,2,t 24)]),cO 26 (bldS 1 1 [AV.esl] [(0,1,t 25)]),cO 27 (bld [AV.esl] [(0,1,t 26)]),cO 5 (alloc (AV.agg [AV.esl])),aW 1 5 27] (ab [aS 29 2 4,aS 30 1 5,aN 31 11 [t 29,t 30],aa 28 31,cf 32 28 0,cf 33 28 1,cO 6 (alloc (AV.agg [AV.esl])),aW 1 6 32,aa 7 33] (ab [aS 35 1 5,aS 36 2 1,cO 37 (bldS 2 1 [bE,bE] [(0,2,t 36)]),aN 38 7 [t 35,t 37],aa 34 38,cf 39 34 0,cf 40 34 1,cO 8 (alloc (AV.agg [AV.esl])),aW 1 8 39,aa 9 40] ((mixS 1 [aa 41 7,aa 42 9,aF 43 .add 41 42,ao 44 .eql 43 0,aa 45 44,ah 46 45 (fa 0 (t 6)),ah 47 45 (cD 46),ah 48 45 (lenS (t 47)),ah 49 45 (cB .eql (t 48) (cN 1)),cO 50 (pick (t 45) (t 49) be),aa 51 50,ah 52 51 (fa 0 (t 6)),ah 53 51 (cD 52),ah 54 51 (ixaS 1 (t 53) (cN 0)),ah 55 51 (cD 54),ah 56 51 (ldn 2 (t 1)),ah 57 51 (ldn 2 (t 2)),ah 58 51 (bldS 2 2 [bE,bE] [(0,2,t 56),(2,2,t 57)]),ah 59 51 (call (cF 12) [t 55,t 58]),cO 60 (pick (t 51) (t 59) be),aa 61 60,ah 62 61 (fa 0 (t 8)),ah 63 61 (cD 62),ah 64 61 (lenS (t 63)),ah 65 61 (cB .eql (t 64) (cN 1)),cO 66 (pick (t 61) (t 65) be),aa 67 66,ah 68 67 (fa 0 (t 8)),ah 69 67 (cD 68),ah 70 67 (ixaS 1 (t 69) (cN 0)),ah 71 67 (cD 70),ah 72 67 (ldn 2 (t 2)),ah 73 67 (ldn 2 (t 3)),ah 74 67 (bldS 2 2 [bE,bE] [(0,2,t 72),(2,2,t 73)]),ah 75 67 (call (cF 12) [t 71,t 74]),cO 76 (pick (t 67) (t 75) be),aa 0 76] [(0,0),(1,0),(2,0),(3,0),(4,0),(5,0),(6,0),(7,0),(8,0),(9,0),(10,0),(11,0),(12,0),(13,0),(14,0),(15,0),(16,0),(17,1),(18,1),(19,0),(20,0),(21,0),(22,0),(23,0),(24,0),(25,0),(26,0),(27,0),(28,0),(29,0),(30,0),(31,0),(32,0),(33,1),(34,2),(35,0),(36,0)]).seq ret))))))))
theorem is4:Is Try.prog 4 b4:=Is.mk' Try.func4 (by kernel_rfl)
def b5:F2:=(F2.mk 27 [RV.t 2] (ab [cO 1 (box (t 0)),cO 2 (mov be)] (ab [aS 6 1 1,aN 7 13 [t 6],aa 5 7,cf 8 5 0,cf 9 5 1,aa 3 8,aa 4 9] (ab [aS 10 1 1,aN 11 14 [t 10],aa 12 11,ah 13 12 (ldn 1 (t 1)),ah 14 12 (call (cF 15) [t 13]),ah 15 12 (cB .eql (t 14) (cN 0)),cO 16 (pick (t 12) (t 15) be),aa 17 16,ah 18 17 (fa 0 (t 1)),ah 19 17 (cD 18),ah 20 17 (lenS (t 19)),ah 21 17 (cB .leq (t 20) (cN 12)),cO 22 (pick (t 17) (t 21) be),aa 23 22,ah 24 23 (cM 3),ah 25 23 (cB .leq (t 24) (cN 3)),cO 26 (pick (t 23) (t 25) be),aa 2 26] ret))))
theorem is5:Is Try.prog 5 b5:=Is.mk' Try.func5 (by kernel_rfl)
def b6:F2:=(F2.mk 24 [RV.cn 4 1,RV.t 5] (ab [cO 2 (box (t 0)),cO 4 (alloc (AV.agg [AV.esl])),cO 5 (mov (cN 0))] ((ab [aS 8 1 2,aa 9 1,aN 10 16 [t 8,t 9],aa 6 10] (ab [aa 11 6,ao 12 .neq 11 0] (az 12 (ab [cO 13 (bld [AV.esl] []),aa 14 6,aW 1 4 13,aa 5 14] ret) skip))).seq (ab [aS 15 1 2,aa 16 1,aN 17 17 [t 15,t 16],aa 7 17] ((ab [aa 18 7,bq 19 18,ao 20 .eql 19 0] (az 20 (ab [cO 21 (bld [AV.esl] []),aW 1 4 21,cO 5 (mov (cN 6))] ret) skip)).seq (ab [aa 22 7,aN 23 18 [t 22],aW 1 4 23,cO 5 (mov (cN 0))] ret))))))
theorem is6:Is Try.prog 6 b6:=Is.mk' Try.func6 (by kernel_rfl)
def b7:F2:=(F2.mk 26 [RV.cn 4 1,RV.t 5] (ab [cO 2 (box (t 0)),cO 3 (box (t 1)),cO 4 (alloc (AV.agg [AV.esl])),cO 5 (mov (cN 0))] ((ab [aS 8 1 2,aP 9 3,aN 10 16 [t 8,t 9],aa 6 10] (ab [aa 11 6,ao 12 .neq 11 0] (az 12 (ab [cO 13 (bld [AV.esl] []),aa 14 6,aW 1 4 13,aa 5 14] ret) skip))).seq (ab [aS 15 1 2,aP 16 3,aN 17 17 [t 15,t 16],aa 7 17] ((ab [aa 18 7,bq 19 18,ao 20 .eql 19 0] (az 20 (ab [cO 21 (bld [AV.esl] []),aW 1 4 21,cO 5 (mov (cN 6))] ret) skip)).seq (ab [aa 22 7,cO 23 (mkfn 20 [t 3]),aN 24 19 [t 22,t 23],aN 25 18 [t 24],aW 1 4 25,cO 5 (mov (cN 0))] ret))))))
theorem is7:Is Try.prog 7 b7:=Is.mk' Try.func7 (by kernel_rfl)
def b8:F2:=(F2.mk 112 [RV.cn 4 1,RV.t 5] (ab [cO 2 (box (t 0)),cO 3 (box (t 1)),cO 4 (alloc (AV.agg [AV.esl])),cO 5 (mov (cN 0))] ((ab [aS 19 1 2,aS 20 1 3,aN 21 22 [t 19,t 20],aa 6 21] (ab [aa 22 6,ao 23 .neq 22 0] (az 23 (ab [cO 24 (bld [AV.esl] []),aa 25 6,aW 1 4 24,aa 5 25] ret) skip))).seq ((ab [cp 26 0 2,aP 27 26,bq 28 27,ao 29 .eql 28 0,aa 30 29,dx 31 30 (fa 0 (t 3)),dx 32 30 (cD 31),dx 33 30 (lenS (t 32)),dx 34 30 (cB .eql (t 33) (cN 0)),cO 35 (pick (t 30) eN (t 34))] (az 35 ((mixS 1 [cp 36 0 2,aP 37 36,aN 38 23 [t 37],cp 39 0 3,aP 40 39,cO 41 (app 1 24 (t 38) (t 40)),aN 42 18 [t 41],aW 1 4 42,cO 5 (mov (cN 0))] [(0,0),(1,0),(3,0),(4,0),(2,1),(5,2),(6,2),(7,2),(8,0)]).seq ret) skip)).seq (ab [cp 43 0 2,aP 44 43,aN 45 24 [t 44],aa 7 45] ((ab [cp 46 0 3,aP 47 46,aN 48 25 [t 47],bq 49 48,cO 50 (mov (cN 0))] (block 0 (ab [aF 51 .lss 50 49] ((az 51 skip (exit 0)).seq ((block 1 (ab [cO 52 (ixaS 2 (t 48) (t 50)),aS 53 2 52,cO 9 (alloc (AV.agg [bE,bE])),aW 2 9 53] (ab [aa 54 7,aS 55 2 9,cO 56 (Ins.mget (MK.st [int,int]) AV.esl false (t 54) (t 55)),bq 57 56,ao 58 .gtr 57 0] (az 58 (ab [cO 59 (bld [AV.esl] []),aW 1 4 59,cO 5 (mov (cN 7))] ret) skip)))).seq (ops 0 [ao 60 .add 50 1,aa 50 60])))).loop)).seq (ab [aS 62 1 2,aN 63 26 [t 62],aa 61 63,cf 64 61 0,cf 65 61 1,aa 10 64,aa 11 65] (ab [aS 67 1 3,aN 68 26 [t 67],aa 66 68,cf 69 66 0,cf 70 66 1,aa 12 69,aa 13 70] ((ab [aa 71 10,aa 72 12,aF 73 .add 71 72,ao 74 .add 73 2,ao 75 .gtr 74 8,aa 76 75,dx 77 76 (fa 0 (t 2)),dx 78 76 (cD 77),dx 79 76 (lenS (t 78)),dx 80 76 (fa 0 (t 3)),dx 81 76 (cD 80),dx 82 76 (lenS (t 81)),dx 83 76 (cB .mul (t 79) (t 82)),dx 84 76 (cB .gtr (t 83) (cN 4096)),cO 85 (pick (t 76) eN (t 84))] (az 85 (ab [cO 86 (bld [AV.esl] []),aW 1 4 86,cO 5 (mov (cN 5))] ret) skip)).seq (ab [cO 14 (mov (c AV.esl))] ((ab [cp 87 0 2,aP 88 87,bq 89 88,cO 90 (mov (cN 0))] (block 2 (ab [aF 91 .lss 90 89] ((az 91 skip (exit 2)).seq ((block 3 (ab [cO 92 (ixaS 1 (t 88) (t 90)),aP 93 92,aa 16 93] (ab [cp 94 0 3,aP 95 94,bq 96 95,cO 97 (mov (cN 0))] (block 4 (ab [aF 98 .lss 97 96] ((az 98 skip (exit 4)).seq ((block 5 (ab [cO 99 (ixaS 1 (t 95) (t 97)),aP 100 99,aa 18 100] (ops 0 [aa 101 14,aa 102 16,aa 103 18,cO 104 (bldS 1 2 [AV.esl] [(0,1,t 102),(1,1,t 103)]),aN 105 25 [t 104],cO 106 (bldS 1 1 [AV.esl] [(0,1,t 105)]),cO 107 (app 1 24 (t 101) (t 106)),aa 14 107]))).seq (ops 0 [ao 108 .add 97 1,aa 97 108])))).loop)))).seq (ops 0 [ao 109 .add 90 1,aa 90 109])))).loop)).seq (ab [aa 110 14,aN 111 18 [t 110],aW 1 4 111,cO 5 (mov (cN 0))] ret))))))))))))
theorem is8:Is Try.prog 8 b8:=Is.mk' Try.func8 (by kernel_rfl)
def b9:F2:=(F2.mk 10 [RV.t 4] (ab [cO 2 (box (t 0)),cO 3 (box (t 1)),cO 4 (mov be)] (ab [cp 5 0 2,aP 6 5,cp 7 0 3,aP 8 7,aN 9 27 [t 6,t 8],aa 4 9] ret)))
theorem is9:Is Try.prog 9 b9:=Is.mk' Try.func9 (by kernel_rfl)
def b10:F2:=(F2.mk 23 [RV.cn 4 1,RV.t 5] (ab [cO 2 (box (t 0)),cO 3 (box (t 1)),cO 4 (alloc (AV.agg [AV.esl])),cO 5 (mov (cN 0))] ((ab [aS 7 1 2,aS 8 1 3,aN 9 22 [t 7,t 8],aa 6 9] (ab [aa 10 6,ao 11 .neq 10 0] (az 11 (ab [cO 12 (bld [AV.esl] []),aa 13 6,aW 1 4 12,aa 5 13] ret) skip))).seq ((mixS 1 [cp 14 0 2,aP 15 14,aN 16 23 [t 15],cp 17 0 3,aP 18 17,cO 19 (app 1 24 (t 16) (t 18)),aN 20 28 [t 19],cf 21 20 0,cf 22 20 1,aW 1 4 21,aa 5 22] [(0,0),(1,0),(3,0),(4,0),(2,1),(5,2),(6,2),(7,0),(8,0),(9,2),(10,0)]).seq ret))))
theorem Bp:Is Try.prog 10 b10:=Is.mk' Try.func10 (by kernel_rfl)
def b11:F2:=(F2.mk 39 [RV.cn 4 1,RV.t 5] (ab [cO 2 (box (t 0)),cO 3 (box (t 1)),cO 4 (alloc (AV.agg [AV.esl])),cO 5 (mov (cN 0))] (ab [aS 12 2 2,aN 13 29 [t 12],aa 11 13,cf 14 11 0,cf 15 11 1,aa 6 14,aa 7 15] ((ab [aa 16 7,ao 17 .neq 16 0] (az 17 (ab [cO 18 (bld [AV.esl] []),aa 19 7,aW 1 4 18,aa 5 19] ret) skip)).seq ((ab [aS 20 1 3,aN 21 30 [t 20],aa 8 21] (ab [aa 22 8,ao 23 .neq 22 0] (az 23 (ab [cO 24 (bld [AV.esl] []),aa 25 8,aW 1 4 24,aa 5 25] ret) skip))).seq (ab [aa 27 6,aS 28 1 3,aN 29 31 [t 27,t 28],aa 26 29,cf 30 26 0,cf 31 26 1,aa 9 30,aa 10 31] ((ab [aa 32 10,cO 33 (un UnOp.not (t 32))] (az 33 (ab [cO 34 (bld [AV.esl] []),aW 1 4 34,cO 5 (mov (cN 6))] ret) skip)).seq (ab [aa 35 9,aN 36 32 [t 35],cf 37 36 0,cf 38 36 1,aW 1 4 37,aa 5 38] ret))))))))
theorem Bh:Is Try.prog 11 b11:=Is.mk' Try.func11 (by kernel_rfl)
def b12:F2:=(F2.mk 26 [RV.t 4] (ab [cO 4 (mov be)] ((ab [aa 6 0,bq 7 6,aa 8 1,bq 9 8,aF 10 .neq 7 9] (az 10 (ab [cO 4 (mov be)] ret) skip)).seq ((ab [aa 11 0,bq 12 11,cO 13 (mov (cN 0))] (block 0 (ab [aF 14 .lss 13 12] ((az 14 skip (exit 0)).seq ((block 1 (ab [aa 15 13,aa 5 15] ((ops 1 [aa 16 0,aa 17 5,cO 18 (ixaS 2 (t 16) (t 17)),aS 19 2 18,aa 20 1,aa 21 5,cO 22 (ixaS 2 (t 20) (t 21)),aS 23 2 22,cO 24 (binS BinOp.neq [int,int] (t 19) (t 23))]).seq (az 24 (ab [cO 4 (mov be)] ret) skip)))).seq (ops 0 [ao 25 .add 13 1,aa 13 25])))).loop)).seq (ab [cO 4 (mov eN)] ret)))))
theorem AB:Is Try.prog 12 b12:=Is.mk' Try.func12 (by kernel_rfl)
def b13:F2:=(F2.mk 38 [RV.t 2,RV.t 3] (ab [cO 1 (box (t 0)),cO 2 (mov (cN 0)),cO 3 (mov be)] (ab [cO 4 (mov (cN ((-1)))),cO 5 (mov eN)] ((ab [cO 6 (mov (cN 0))] (block 0 ((ab [aa 8 6,cp 9 0 1,aP 10 9,bq 11 10,aF 12 .lss 8 11] (az 12 skip (exit 0))).seq ((block 1 (ab [cp 15 0 1,aP 16 15,aa 17 6,cO 18 (ixaS 1 (t 16) (t 17)),aP 19 18,bq 20 19,ao 21 .sub 20 1,aa 7 21] (ab [aa 22 5,aa 23 22,ah 24 23 (cM 6),ah 25 23 (cB .eql (t 24) (cN 0)),ah 26 23 (cM 25),dx 27 26 (cM 7),dx 28 26 (cM 4),dx 29 26 (cB .eql (t 27) (t 28)),ah 30 23 (pick (t 26) eN (t 29)),cO 31 (pick (t 23) (t 30) be),aa 5 31] (ab [aa 32 7,aa 33 4,aF 34 .gtr 32 33] (az 34 (ops 0 [aa 35 7,aa 4 35]) skip))))).seq (ops 0 [aa 13 6,ao 14 .add 13 1,aa 6 14]))).loop)).seq (ab [aa 36 4,aa 37 5,aa 2 36,aa 3 37] ret)))))
theorem Bg:Is Try.prog 13 b13:=Is.mk' Try.func13 (by kernel_rfl)
def b14:F2:=(F2.mk 6 [RV.t 2] (ab [cO 1 (box (t 0)),cO 2 (mov be)] (ab [cp 3 0 1,aP 4 3,aN 5 33 [t 4],aa 2 5] ret)))
theorem Bi:Is Try.prog 14 b14:=Is.mk' Try.func14 (by kernel_rfl)
def b15:F2:=(F2.mk 68 [RV.t 2] (ab [cO 1 (box (t 0)),cO 2 (mov (cN 0))] (ab [cp 8 0 1,aP 9 8,aa 3 9] ((ab [aa 10 3,bq 11 10,ao 12 .gtr 11 4096] (az 12 (ab [cO 2 (mov (cN 5))] ret) skip)).seq ((ab [cO 4 (mov (cN 0))] (block 0 ((ab [aa 13 4,aa 14 3,bq 15 14,aF 16 .lss 13 15] (az 16 skip (exit 0))).seq ((block 1 ((ab [aa 19 3,aa 20 4,cO 21 (ixaS 1 (t 19) (t 20)),aP 22 21,aN 23 34 [t 22],aa 5 23] (ab [aa 24 5,ao 25 .neq 24 0] (az 25 (ab [aa 26 5,aa 2 26] ret) skip))).seq ((mixS 1 [aa 27 4,ao 28 .gtr 27 0,aa 29 28,ah 30 29 (cM 3),ah 31 29 (cM 4),ah 32 29 (cB .sub (t 31) (cN 1)),ah 33 29 (ixaS 1 (t 30) (t 32)),ah 34 29 (cD 33),ah 35 29 (cM 3),ah 36 29 (cM 4),ah 37 29 (ixaS 1 (t 35) (t 36)),ah 38 29 (cD 37),ah 39 29 (call (cF 35) [t 34,t 38]),ah 40 29 (cB .geq (t 39) (cN 0)),cO 41 (pick (t 29) (t 40) be)] [(0,0),(1,0),(2,0),(3,0),(4,0),(5,0),(6,0),(7,0),(8,0),(9,0),(10,0),(11,0),(12,2),(13,0),(14,0)]).seq (az 41 (ab [cO 2 (mov (cN 14))] ret) skip)))).seq (ops 0 [aa 17 4,ao 18 .add 17 1,aa 4 18]))).loop)).seq ((ab [cO 6 (mov (cN 0))] (block 2 ((ab [aa 42 6,aa 43 3,bq 44 43,aF 45 .lss 42 44] (az 45 skip (exit 2))).seq ((block 3 (ab [cO 7 (mov (cN 0))] (block 4 ((ab [aa 48 7,aa 49 3,bq 50 49,aF 51 .lss 48 50] (az 51 skip (exit 4))).seq ((block 5 ((mixS 1 [aa 54 6,aa 55 7,aF 56 .neq 54 55,aa 57 56,ah 58 57 (cM 3),ah 59 57 (cM 6),ah 60 57 (ixaS 1 (t 58) (t 59)),ah 61 57 (cD 60),ah 62 57 (cM 3),ah 63 57 (cM 7),ah 64 57 (ixaS 1 (t 62) (t 63)),ah 65 57 (cD 64),ah 66 57 (call (cF 36) [t 61,t 65]),cO 67 (pick (t 57) (t 66) be)] [(0,0),(1,0),(2,0),(3,0),(4,0),(5,0),(6,0),(7,0),(8,0),(9,0),(10,0),(11,0),(12,2),(13,0)]).seq (az 67 (ab [cO 2 (mov (cN 7))] ret) skip))).seq (ops 0 [aa 52 7,ao 53 .add 52 1,aa 7 53]))).loop))).seq (ops 0 [aa 46 6,ao 47 .add 46 1,aa 6 47]))).loop)).seq (ab [cO 2 (mov (cN 0))] ret)))))))
theorem Bf:Is Try.prog 15 b15:=Is.mk' Try.func15 (by kernel_rfl)
def b16:F2:=(F2.mk 13 [RV.t 4] (ab [cO 2 (box (t 0)),cO 4 (mov (cN 0))] ((ab [aS 6 1 2,aN 7 30 [t 6],aa 5 7] (ab [aa 8 5,ao 9 .neq 8 0] (az 9 (ab [aa 10 5,aa 4 10] ret) skip))).seq (ab [aa 11 1,aN 12 37 [t 11],aa 4 12] ret))))
theorem z5:Is Try.prog 16 b16:=Is.mk' Try.func16 (by kernel_rfl)
def b17:F2:=(F2.mk 9 [RV.t 4] (ab [cO 2 (box (t 0)),cO 3 (box (t 1)),cO 4 (mov (c AV.esl))] (ab [cp 5 0 2,aP 6 5,cO 7 (mkfn 39 [t 3]),aN 8 38 [t 6,t 7],aa 4 8] ret)))
theorem yQ:Is Try.prog 17 b17:=Is.mk' Try.func17 (by kernel_rfl)
def b18:F2:=(F2.mk 39 [RV.cn 2 1] (ab [cO 2 (alloc (AV.agg [AV.esl]))] (ab [aa 7 0,aN 8 23 [t 7],aa 0 8] (ab [aa 9 0,aN 10 41 ([t 9,c (AV.func 42 [])])] (ab [aa 11 0,aN 12 43 ([t 11,c (AV.func 12 [])]),aa 0 12] (ab [aa 13 0,aN 14 24 [t 13],aa 3 14] (ab [cO 4 (alloc (AV.agg [AV.esl]))] ((ab [aa 15 0,bq 16 15,cO 17 (mov (cN 0))] (block 0 (ab [aF 18 .lss 17 16] ((az 18 skip (exit 0)).seq ((block 1 (ab [cO 19 (ixaS 1 (t 15) (t 17)),aP 20 19,aa 6 20] (ab [aa 21 0,aa 22 3,aa 23 6,cO 24 (ixaS 2 (t 23) (cN 0)),aS 25 2 24,cO 26 (Ins.mget (MK.st [int,int]) AV.esl false (t 22) (t 25)),aa 27 6,aN 28 44 [t 21,t 26,t 27],cO 29 (un UnOp.not (t 28))] (az 29 (mixS 1 [cp 30 0 4,aP 31 30,aa 32 6,aN 33 45 [t 32],cO 34 (bldS 1 1 [AV.esl] [(0,1,t 33)]),cO 35 (app 1 24 (t 31) (t 34)),cp 36 0 4,aW 1 36 35] [(0,0),(1,0),(2,0),(3,1),(4,1),(5,2),(6,0),(7,2)]) skip)))).seq (ops 0 [ao 37 .add 17 1,aa 17 37])))).loop)).seq (ab [aS 38 1 4,aW 1 2 38] ret)))))))))
theorem AM:Is Try.prog 18 b18:=Is.mk' Try.func18 (by kernel_rfl)
def b19:F2:=(F2.mk 27 [RV.t 4] (ab [cO 4 (mov (c AV.esl))] (ab [cO 5 (mov (c AV.esl))] ((ab [aa 9 0,bq 10 9,cO 11 (mov (cN 0))] (block 0 (ab [aF 12 .lss 11 10] ((az 12 skip (exit 0)).seq ((block 1 (ab [cO 13 (ixaS 1 (t 9) (t 11)),aP 14 13,aa 7 14] (ab [aa 15 7,aa 16 1,aN 17 46 [t 15,t 16],aa 8 17] (ab [aa 18 8,bq 19 18,ao 20 .gtr 19 0] (az 20 (ops 0 [aa 21 5,aa 22 8,cO 23 (bldS 1 1 [AV.esl] [(0,1,t 22)]),cO 24 (app 1 24 (t 21) (t 23)),aa 5 24]) skip))))).seq (ops 0 [ao 25 .add 11 1,aa 11 25])))).loop)).seq (ab [aa 26 5,aa 4 26] ret)))))
theorem z6:Is Try.prog 19 b19:=Is.mk' Try.func19 (by kernel_rfl)
def b20:F2:=(F2.mk 8 [RV.t 3] (ab [cO 2 (box (t 0)),cO 3 (mov be)] (ab [aP 4 1,aS 5 2 2,aN 6 21 [t 4,t 5],cO 7 (un UnOp.not (t 6)),aa 3 7] ret)))
theorem AF:Is Try.prog 20 b20:=Is.mk' Try.func20 (by kernel_rfl)
def b21:F2:=(F2.mk 9 [RV.t 4] (ab [cO 3 (box (t 1)),cO 4 (mov be)] (ab [aa 5 0,aS 6 2 3,aN 7 47 [t 5,t 6],ao 8 .geq 7 0,aa 4 8] ret)))
theorem zq:Is Try.prog 21 b21:=Is.mk' Try.func21 (by kernel_rfl)
def b22:F2:=(F2.mk 13 [RV.t 4] (ab [cO 2 (box (t 0)),cO 3 (box (t 1)),cO 4 (mov (cN 0))] ((ab [aS 6 1 2,aN 7 30 [t 6],aa 5 7] (ab [aa 8 5,ao 9 .neq 8 0] (az 9 (ab [aa 10 5,aa 4 10] ret) skip))).seq (ab [aS 11 1 3,aN 12 30 [t 11],aa 4 12] ret))))
theorem Bl:Is Try.prog 22 b22:=Is.mk' Try.func22 (by kernel_rfl)
def b23:F2:=(F2.mk 8 [RV.t 2] (ab [cO 2 (mov (c AV.esl))] ((ab [aa 3 0,cO 4 (snil false (t 3))] (az 4 (ab [cO 2 (mov (c AV.esl))] ret) skip)).seq (ab [cO 5 (bldS 1 0 [AV.esl] []),aa 6 0,cO 7 (app 1 24 (t 5) (t 6)),aa 2 7] ret))))
theorem Au:Is Try.prog 23 b23:=Is.mk' Try.func23 (by kernel_rfl)
def b24:F2:=(F2.mk 33 [RV.t 2] (ab [cO 2 (mov (c AV.nilm))] (ab [cO 8 (mkm none),aa 3 8] ((ab [aa 9 0,bq 10 9,cO 11 (mov (cN 0))] (block 0 (ab [aF 12 .lss 11 10] ((az 12 skip (exit 0)).seq ((block 1 (ab [aa 13 11,cO 14 (ixaS 1 (t 9) (t 11)),aP 15 14,aa 4 13,aa 5 15] (ab [aa 16 5,bq 17 16,cO 18 (mov (cN 0))] (block 2 (ab [aF 19 .lss 18 17] ((az 19 skip (exit 2)).seq ((block 3 (ab [cO 20 (ixaS 2 (t 16) (t 18)),aS 21 2 20,cO 7 (alloc (AV.agg [bE,bE])),aW 2 7 21] (ops 0 [aa 22 3,aS 23 2 7,aa 25 4,cO 26 (bldS 1 1 [bE] [(0,1,t 25)]),cO 27 (mplc (MK.st [int,int]) AV.esl (t 22) (t 23)),cf 24 27 0,cO 28 (app 1 8 (t 24) (t 26)),cf 29 27 1,Op2.mk none none (mpst (t 22) (t 29) (t 28))]))).seq (ops 0 [ao 30 .add 18 1,aa 18 30])))).loop)))).seq (ops 0 [ao 31 .add 11 1,aa 11 31])))).loop)).seq (ab [aa 32 3,aa 2 32] ret)))))
theorem AU:Is Try.prog 24 b24:=Is.mk' Try.func24 (by kernel_rfl)
def b25:F2:=(F2.mk 10 [RV.t 2] (ab [cO 2 (mov (c AV.esl))] (ab [aa 4 0,aN 5 48 [t 4],aa 3 5] (ab [aa 6 3,aN 7 49 ([t 6,c (AV.func 50 [])])] (ab [aa 8 3,aN 9 51 [t 8],aa 2 9] ret)))))
theorem Bk:Is Try.prog 25 b25:=Is.mk' Try.func25 (by kernel_rfl)
def b26:F2:=(F2.mk 33 [RV.t 2,RV.t 3] (ab [cO 1 (box (t 0)),cO 2 (mov (cN 0)),cO 3 (mov be)] (ab [cO 4 (mov (cN 8)),cO 5 (mov (cN 0))] ((ab [cp 8 0 1,aP 9 8,bq 10 9,cO 11 (mov (cN 0))] (block 0 (ab [aF 12 .lss 11 10] ((az 12 skip (exit 0)).seq ((block 1 (ab [cO 13 (ixaS 1 (t 9) (t 11)),aP 14 13,aa 7 14] (ops 0 [aa 15 4,aa 16 7,bq 17 16,cO 18 (mn (t 15) [t 17]),aa 19 5,aa 20 7,bq 21 20,cO 22 (mx (t 19) [t 21]),aa 4 18,aa 5 22]))).seq (ops 0 [ao 23 .add 11 1,aa 11 23])))).loop)).seq (ab [aa 24 5,ao 25 .sub 24 1,aa 26 5,ao 27 .eql 26 0,aa 28 27,dx 29 28 (cM 4),dx 30 28 (cM 5),dx 31 28 (cB .eql (t 29) (t 30)),cO 32 (pick (t 28) eN (t 31)),aa 2 25,aa 3 32] ret)))))
theorem A6:Is Try.prog 26 b26:=Is.mk' Try.func26 (by kernel_rfl)
def b27:F2:=(F2.mk 27 [RV.t 4] (ab [cO 4 (mov be)] ((ab [aa 6 0,bq 7 6,aa 8 1,bq 9 8,aF 10 .neq 7 9] (az 10 (ab [cO 4 (mov be)] ret) skip)).seq ((ab [cO 5 (mov (cN 0))] (block 0 ((ab [aa 11 5,aa 12 0,bq 13 12,aF 14 .lss 11 13] (az 14 skip (exit 0))).seq ((block 1 ((mixS 1 [aa 17 0,aa 18 5,cO 19 (ixaS 1 (t 17) (t 18)),aP 20 19,aa 21 1,aa 22 5,cO 23 (ixaS 1 (t 21) (t 22)),aP 24 23,aN 25 52 [t 20,t 24],cO 26 (un UnOp.not (t 25))] [(0,0),(1,0),(2,0),(3,0),(4,0),(5,0),(6,0),(7,0),(8,2),(9,0)]).seq (az 26 (ab [cO 4 (mov be)] ret) skip))).seq (ops 0 [aa 15 5,ao 16 .add 15 1,aa 5 16]))).loop)).seq (ab [cO 4 (mov eN)] ret)))))
theorem A5:Is Try.prog 27 b27:=Is.mk' Try.func27 (by kernel_rfl)
def b28:F2:=(F2.mk 13 [RV.cn 2 1,RV.t 3] (ab [cO 2 (alloc (AV.agg [AV.esl])),cO 3 (mov (cN 0))] (ab [aa 5 0,aN 6 18 [t 5],cO 4 (alloc (AV.agg [AV.esl])),aW 1 4 6] ((ab [cp 7 0 4,aP 8 7,bq 9 8,ao 10 .gtr 9 4096] (az 10 (ab [cO 11 (bld [AV.esl] []),aW 1 2 11,cO 3 (mov (cN 5))] ret) skip)).seq (ab [aS 12 1 4,aW 1 2 12,cO 3 (mov (cN 0))] ret)))))
theorem A2:Is Try.prog 28 b28:=Is.mk' Try.func28 (by kernel_rfl)
def b29:F2:=(F2.mk 31 [RV.t 2,RV.t 3] (ab [cO 1 (box (t 0)),cO 2 (mov (c AV.nilm)),cO 3 (mov (cN 0))] ((ab [aS 8 2 1,aN 9 53 [t 8],aa 4 9] (ab [aa 10 4,ao 11 .neq 10 0] (az 11 (ab [aa 12 4,cO 2 (mov (c AV.nilm)),aa 3 12] ret) skip))).seq (ab [cO 13 (mkm none),aa 5 13] ((ab [cp 14 0 1,aP 15 14,bq 16 15,cO 17 (mov (cN 0))] (block 0 (ab [aF 18 .lss 17 16] ((az 18 skip (exit 0)).seq ((block 1 (ab [aa 19 17,cO 20 (ixaS 2 (t 15) (t 17)),aS 21 2 20,cO 7 (alloc (AV.agg [bE,bE])),aa 6 19,aW 2 7 21] (mixS 9 [aa 22 5,aS 23 2 7,cp 24 1 1,aP 25 24,aa 26 6,cO 27 (ixaS 2 (t 25) (t 26)),aS 28 2 27,Op2.mk none none (mput (MK.st [int,int]) (t 22) (t 23) (t 28))] [(0,0),(1,0),(2,0),(3,0),(4,0),(5,0),(6,0),(7,2)]))).seq (ops 0 [ao 29 .add 17 1,aa 17 29])))).loop)).seq (ab [aa 30 5,aa 2 30,cO 3 (mov (cN 0))] ret))))))
theorem Ba:Is Try.prog 29 b29:=Is.mk' Try.func29 (by kernel_rfl)
def b30:F2:=(F2.mk 60 [RV.t 2] (ab [cO 1 (box (t 0)),cO 2 (mov (cN 0))] ((ab [cp 9 0 1,aP 10 9,bq 11 10,ao 12 .gtr 11 4096] (az 12 (ab [cO 2 (mov (cN 5))] ret) skip)).seq ((ab [cp 13 0 1,aP 14 13,bq 15 14,cO 16 (mov (cN 0))] (block 0 (ab [aF 17 .lss 16 15] ((az 17 skip (exit 0)).seq ((block 1 (ab [aa 18 16,cO 19 (ixaS 1 (t 14) (t 16)),aP 20 19,aa 3 18,aa 4 20] ((ab [aa 21 4,aN 22 37 [t 21],aa 5 22] (ab [aa 23 5,ao 24 .neq 23 0] (az 24 (ab [aa 25 5,aa 2 25] ret) skip))).seq (ab [aa 26 3,ao 27 .gtr 26 0,aa 28 27,ah 29 28 (fa 0 (t 1)),ah 30 28 (cD 29),ah 31 28 (cM 3),ah 32 28 (cB .sub (t 31) (cN 1)),ah 33 28 (ixaS 1 (t 30) (t 32)),ah 34 28 (cD 33),ah 35 28 (cM 4),ah 36 28 (call (cF 42) [t 34,t 35]),ah 37 28 (cB .geq (t 36) (cN 0)),cO 38 (pick (t 28) (t 37) be)] (az 38 (ab [cO 2 (mov (cN 14))] ret) skip))))).seq (ops 0 [ao 39 .add 16 1,aa 16 39])))).loop)).seq (ab [cp 40 0 1,aP 41 40,aN 42 24 [t 41],aa 6 42] ((ab [cp 43 0 1,aP 44 43,bq 45 44,cO 46 (mov (cN 0))] (block 2 (ab [aF 47 .lss 46 45] ((az 47 skip (exit 2)).seq ((block 3 (ab [cO 48 (ixaS 1 (t 44) (t 46)),aP 49 48,aa 8 49] ((mixS 9 [cp 50 0 1,aP 51 50,aa 52 6,aa 53 8,cO 54 (ixaS 2 (t 53) (cN 0)),aS 55 2 54,cO 56 (Ins.mget (MK.st [int,int]) AV.esl false (t 52) (t 55)),aa 57 8,aN 58 44 [t 51,t 56,t 57]] [(0,0),(1,0),(2,0),(3,0),(4,0),(5,0),(7,0),(6,1),(8,2)]).seq (az 58 (ab [cO 2 (mov (cN 7))] ret) skip)))).seq (ops 0 [ao 59 .add 46 1,aa 46 59])))).loop)).seq (ab [cO 2 (mov (cN 0))] ret)))))))
theorem An:Is Try.prog 30 b30:=Is.mk' Try.func30 (by kernel_rfl)
def b31:F2:=(F2.mk 32 [RV.t 4,RV.t 5] (ab [cO 3 (box (t 1)),cO 4 (mov (c AV.esl)),cO 5 (mov be)] (ab [cO 6 (mov (c AV.esl))] ((ab [cp 11 0 3,aP 12 11,bq 13 12,cO 14 (mov (cN 0))] (block 0 (ab [aF 15 .lss 14 13] ((az 15 skip (exit 0)).seq ((block 1 (ab [cO 16 (ixaS 1 (t 12) (t 14)),aP 17 16,aa 8 17] (ab [aa 19 0,aa 20 8,aN 21 54 [t 19,t 20],aa 18 21,cf 22 18 0,cf 23 18 1,aa 9 22,aa 10 23] ((ab [aa 24 10,cO 25 (un UnOp.not (t 24))] (az 25 (ab [cO 4 (mov (c AV.esl)),cO 5 (mov be)] ret) skip)).seq (ops 0 [aa 26 6,aa 27 9,cO 28 (bldS 1 1 [AV.esl] [(0,1,t 27)]),cO 29 (app 1 24 (t 26) (t 28)),aa 6 29]))))).seq (ops 0 [ao 30 .add 14 1,aa 14 30])))).loop)).seq (ab [aa 31 6,aa 4 31,cO 5 (mov eN)] ret)))))
theorem Bu:Is Try.prog 31 b31:=Is.mk' Try.func31 (by kernel_rfl)
def b32:F2:=(F2.mk 26 [RV.cn 2 1,RV.t 3] (ab [cO 2 (alloc (AV.agg [AV.esl])),cO 3 (mov (cN 0))] ((ab [aa 7 0,bq 8 7,ao 9 .gtr 8 4096] (az 9 (ab [cO 10 (bld [AV.esl] []),aW 1 2 10,cO 3 (mov (cN 5))] ret) skip)).seq ((ab [aa 11 0,bq 12 11,cO 13 (mov (cN 0))] (block 0 (ab [aF 14 .lss 13 12] ((az 14 skip (exit 0)).seq ((block 1 (ab [cO 15 (ixaS 1 (t 11) (t 13)),aP 16 15,aa 5 16] (ab [aa 17 5,aN 18 37 [t 17],aa 6 18] (ab [aa 19 6,ao 20 .neq 19 0] (az 20 (ab [cO 21 (bld [AV.esl] []),aa 22 6,aW 1 2 21,aa 3 22] ret) skip))))).seq (ops 0 [ao 23 .add 13 1,aa 13 23])))).loop)).seq (ab [aa 24 0,aN 25 18 [t 24],aW 1 2 25,cO 3 (mov (cN 0))] ret)))))
theorem A7:Is Try.prog 32 b32:=Is.mk' Try.func32 (by kernel_rfl)
def b33:F2:=(F2.mk 19 [RV.t 2] (ab [cO 2 (mov be)] ((ab [aa 4 0,bq 5 4,ao 6 .gtr 5 30] (az 6 (ab [cO 2 (mov be)] ret) skip)).seq ((ab [cO 3 (mov (cN 0))] (block 0 ((ab [aa 7 3,aa 8 0,bq 9 8,aF 10 .lss 7 9] (az 10 skip (exit 0))).seq ((block 1 (ab [aa 13 0,aa 14 3,cO 15 (ixaS 1 (t 13) (t 14)),aP 16 15,aN 17 55 [t 16],cO 18 (un UnOp.not (t 17))] (az 18 (ab [cO 2 (mov be)] ret) skip))).seq (ops 0 [aa 11 3,ao 12 .add 11 1,aa 3 12]))).loop)).seq (ab [cO 2 (mov eN)] ret)))))
theorem Bv:Is Try.prog 33 b33:=Is.mk' Try.func33 (by kernel_rfl)
def b34:F2:=(F2.mk 39 [RV.t 2] (ab [cO 2 (mov (cN 0))] ((block 0 (ab [aa 5 0,bq 6 5,ao 7 .eql 6 0,aa 4 7] (az 4 (ab [cO 2 (mov (cN 16))] ret) (ab [aa 9 0,bq 10 9,ao 11 .gtr 10 8,aa 8 11] (az 8 (ab [cO 2 (mov (cN 5))] ret) skip))))).seq ((ab [cO 3 (mov (cN 0))] (block 1 ((ab [aa 12 3,aa 13 0,bq 14 13,aF 15 .lss 12 14] (az 15 skip (exit 1))).seq ((block 2 ((ab [aa 18 0,aa 19 3,cO 20 (ixaS 2 (t 18) (t 19)),aS 21 2 20,aN 22 56 [t 21],cO 23 (un UnOp.not (t 22))] (az 23 (ab [cO 2 (mov (cN 2))] ret) skip)).seq ((mixS 1 [aa 24 3,ao 25 .gtr 24 0,aa 26 25,ah 27 26 (cM 0),ah 28 26 (cM 3),ah 29 26 (cB .sub (t 28) (cN 1)),ah 30 26 (ixaS 2 (t 27) (t 29)),ah 31 26 (ldn 2 (t 30)),ah 32 26 (cM 0),ah 33 26 (cM 3),ah 34 26 (ixaS 2 (t 32) (t 33)),ah 35 26 (ldn 2 (t 34)),ah 36 26 (call (cF 57) [t 31,t 35]),ah 37 26 (cB .geq (t 36) (cN 0)),cO 38 (pick (t 26) (t 37) be)] [(0,0),(1,0),(2,0),(3,0),(4,0),(5,0),(6,0),(7,0),(8,0),(9,0),(10,0),(11,0),(12,2),(13,0),(14,0)]).seq (az 38 (ab [cO 2 (mov (cN 14))] ret) skip)))).seq (ops 0 [aa 16 3,ao 17 .add 16 1,aa 3 17]))).loop)).seq (ab [cO 2 (mov (cN 0))] ret)))))
theorem A9:Is Try.prog 34 b34:=Is.mk' Try.func34 (by kernel_rfl)
def b35:F2:=(F2.mk 43 [RV.t 4] (ab [cO 4 (mov (cN 0))] ((ab [cO 5 (mov (cN 0))] (block 0 ((ab [aa 7 5,aa 8 0,bq 9 8,aF 10 .lss 7 9,aa 11 10,ah 12 11 (cM 5),ah 13 11 (cM 1),ah 14 11 (lenS (t 13)),ah 15 11 (cB .lss (t 12) (t 14)),cO 16 (pick (t 11) (t 15) be)] (az 16 skip (exit 0))).seq ((block 1 ((mixS 1 [aa 19 0,aa 20 5,cO 21 (ixaS 2 (t 19) (t 20)),aS 22 2 21,aa 23 1,aa 24 5,cO 25 (ixaS 2 (t 23) (t 24)),aS 26 2 25,aN 27 57 [t 22,t 26],aa 6 27] [(0,0),(1,0),(2,0),(3,0),(4,0),(5,0),(6,0),(7,0),(8,2),(9,0)]).seq (ab [aa 28 6,ao 29 .neq 28 0] (az 29 (ab [aa 30 6,aa 4 30] ret) skip)))).seq (ops 0 [aa 17 5,ao 18 .add 17 1,aa 5 18]))).loop)).seq ((block 2 (ab [aa 32 0,bq 33 32,aa 34 1,bq 35 34,aF 36 .lss 33 35,aa 31 36] (az 31 (ab [cO 4 (mov (cN ((-1))))] ret) (ab [aa 38 0,bq 39 38,aa 40 1,bq 41 40,aF 42 .gtr 39 41,aa 37 42] (az 37 (ab [cO 4 (mov (cN 1))] ret) skip))))).seq (ab [cO 4 (mov (cN 0))] ret)))))
theorem Be:Is Try.prog 35 b35:=Is.mk' Try.func35 (by kernel_rfl)
def b36:F2:=(F2.mk 19 [RV.t 4] (ab [cO 4 (mov be)] ((ab [cO 5 (mov (cN 0))] (block 0 ((ab [aa 6 5,aa 7 0,bq 8 7,aF 9 .lss 6 8] (az 9 skip (exit 0))).seq ((block 1 (ab [aa 12 1,aa 13 0,aa 14 5,cO 15 (ixaS 2 (t 13) (t 14)),aS 16 2 15,aN 17 58 [t 12,t 16],cO 18 (un UnOp.not (t 17))] (az 18 (ab [cO 4 (mov be)] ret) skip))).seq (ops 0 [aa 10 5,ao 11 .add 10 1,aa 5 11]))).loop)).seq (ab [cO 4 (mov eN)] ret))))
theorem A4:Is Try.prog 36 b36:=Is.mk' Try.func36 (by kernel_rfl)
def b37:F2:=(F2.mk 36 [RV.t 2] (ab [cO 2 (mov (cN 0))] ((block 0 (ab [aa 6 0,bq 7 6,ao 8 .eql 7 0,aa 5 8] (az 5 (ab [cO 2 (mov (cN 16))] ret) (ab [aa 10 0,bq 11 10,ao 12 .gtr 11 8,aa 9 12] (az 9 (ab [cO 2 (mov (cN 5))] ret) skip))))).seq ((ab [aa 13 0,bq 14 13,cO 15 (mov (cN 0))] (block 1 (ab [aF 16 .lss 15 14] ((az 16 skip (exit 1)).seq ((block 2 (ab [aa 17 15,cO 18 (ixaS 2 (t 13) (t 15)),aS 19 2 18,cO 4 (alloc (AV.agg [bE,bE])),aa 3 17,aW 2 4 19] ((ab [aS 20 2 4,aN 21 59 [t 20],cO 22 (un UnOp.not (t 21))] (az 22 (ab [cO 2 (mov (cN 2))] ret) skip)).seq ((mixS 1 [aa 23 3,ao 24 .gtr 23 0,aa 25 24,ah 26 25 (cM 0),ah 27 25 (cM 3),ah 28 25 (cB .sub (t 27) (cN 1)),ah 29 25 (ixaS 2 (t 26) (t 28)),ah 30 25 (ldn 2 (t 29)),ah 31 25 (ldn 2 (t 4)),ah 32 25 (call (cF 60) [t 30,t 31]),ah 33 25 (cB .geq (t 32) (cN 0)),cO 34 (pick (t 25) (t 33) be)] [(0,0),(1,0),(2,0),(3,0),(4,0),(5,0),(6,0),(7,0),(8,0),(9,2),(10,0),(11,0)]).seq (az 34 (ab [cO 2 (mov (cN 14))] ret) skip))))).seq (ops 0 [ao 35 .add 15 1,aa 15 35])))).loop)).seq (ab [cO 2 (mov (cN 0))] ret)))))
theorem zU:Is Try.prog 37 b37:=Is.mk' Try.func37 (by kernel_rfl)
def b38:F2:=(F2.mk 23 [RV.t 4] (ab [cO 4 (mov (c AV.esl))] (ab [cO 5 (mov (c AV.esl))] ((ab [aa 8 0,bq 9 8,cO 10 (mov (cN 0))] (block 0 (ab [aF 11 .lss 10 9] ((az 11 skip (exit 0)).seq ((block 1 (ab [cO 12 (ixaS 1 (t 8) (t 10)),aP 13 12,aa 7 13] (ab [aa 14 1,aa 15 7,cO 16 (call (t 14) [t 15])] (az 16 (ops 0 [aa 17 5,aa 18 7,cO 19 (bldS 1 1 [AV.esl] [(0,1,t 18)]),cO 20 (app 1 24 (t 17) (t 19)),aa 5 20]) skip)))).seq (ops 0 [ao 21 .add 10 1,aa 10 21])))).loop)).seq (ab [aa 22 5,aa 4 22] ret)))))
theorem yp:Is Try.prog 38 b38:=Is.mk' Try.func38 (by kernel_rfl)
def b39:F2:=(F2.mk 7 [RV.t 3] (ab [cO 3 (mov be)] (ab [aP 4 1,aa 5 0,aN 6 40 [t 4,t 5],aa 3 6] ret)))
theorem AZ:Is Try.prog 39 b39:=Is.mk' Try.func39 (by kernel_rfl)
def b40:F2:=(F2.mk 29 [RV.t 4] (ab [cO 4 (mov be)] ((ab [aa 7 0,bq 8 7,cO 9 (mov (cN 0))] (block 0 (ab [aF 10 .lss 9 8] ((az 10 skip (exit 0)).seq ((block 1 (ab [cO 11 (ixaS 2 (t 7) (t 9)),aS 12 2 11,cO 6 (alloc (AV.agg [bE,bE])),aW 2 6 12] ((block 2 (((ops 1 [aa 13 1,bq 14 13,ao 15 .gtr 14 0,aa 16 15,ah 17 16 (cM 1),ah 18 16 (ixaS 2 (t 17) (cN 0)),ah 19 16 (ldn 2 (t 18)),ah 20 16 (ldn 2 (t 6)),ah 21 16 (binS BinOp.neq [int,int] (t 19) (t 20)),cO 22 (pick (t 16) (t 21) be)]).seq (az 22 skip (exit 2))).seq (block 3 (ops 0 [aa 23 1,cO 24 (sls 2 (t 23) (some (cN 1)) none none),aa 1 24]))).loop).seq (ab [aa 25 1,bq 26 25,ao 27 .eql 26 0] (az 27 (ab [cO 4 (mov be)] ret) skip))))).seq (ops 0 [ao 28 .add 9 1,aa 9 28])))).loop)).seq (ab [cO 4 (mov eN)] ret))))
theorem z9:Is Try.prog 40 b40:=Is.mk' Try.func40 (by kernel_rfl)
def b41:F2:=(F2.mk 14 [] (ab [aa 5 0,bq 6 5,aa 4 6] (ops 0 [aa 7 0,aa 8 4,aa 9 4,cO 10 (conv IntKind.u64 (t 9)),aN 11 62 [t 10],aa 12 1,aN 13 61 ([t 7,cN ((0)),t 8,t 11,t 12])])))
theorem y3:Is Try.prog 41 b41:=Is.mk' Try.func41 (by kernel_rfl)
def b42:F2:=(F2.mk 8 [RV.t 4] (ab [cO 4 (mov (cN 0))] (ab [aa 5 0,aa 6 1,aN 7 63 ([t 5,t 6,c (AV.func 60 [])]),aa 4 7] ret)))
theorem AI:Is Try.prog 42 b42:=Is.mk' Try.func42 (by kernel_rfl)
def b43:F2:=(F2.mk 66 [RV.t 4] (ab [cO 4 (mov (c AV.esl))] ((ab [aa 8 0,bq 9 8,ao 10 .lss 9 2] (az 10 (ab [aa 11 0,aa 4 11] ret) skip)).seq ((ab [cO 5 (mov (cN 1))] (block 0 ((ab [aa 12 5,aa 13 0,bq 14 13,aF 15 .lss 12 14] (az 15 skip (exit 0))).seq ((block 1 ((mixS 1 [aa 18 1,aa 19 0,aa 20 5,cO 21 (ixaS 1 (t 19) (t 20)),aP 22 21,aa 23 0,aa 24 5,ao 25 .sub 24 1,cO 26 (ixaS 1 (t 23) (t 25)),aP 27 26,cO 28 (call (t 18) [t 22,t 27])] [(0,0),(1,0),(2,0),(3,0),(4,0),(5,0),(6,0),(7,0),(8,0),(9,0),(10,2)]).seq (az 28 (ab [aa 29 0,aa 30 5,cO 31 (sls 1 (t 29) (some (t 30)) none none),aa 6 31] ((ab [cO 7 (mov (cN 1))] (block 2 ((ab [aa 32 7,aa 33 6,bq 34 33,aF 35 .lss 32 34] (az 35 skip (exit 2))).seq ((block 3 ((mixS 1 [aa 38 1,aa 39 6,aa 40 7,cO 41 (ixaS 1 (t 39) (t 40)),aP 42 41,aa 43 6,aa 44 7,ao 45 .sub 44 1,cO 46 (ixaS 1 (t 43) (t 45)),aP 47 46,cO 48 (call (t 38) [t 42,t 47]),cO 49 (un UnOp.not (t 48))] [(0,0),(1,0),(2,0),(3,0),(4,0),(5,0),(6,0),(7,0),(8,0),(9,0),(10,2),(11,0)]).seq (az 49 (ab [aa 50 0,aa 51 5,aa 52 6,aa 53 7,cO 54 (ixaS 1 (t 52) (t 53)),aP 55 54,cO 56 (ixaS 1 (t 50) (t 51)),aW 1 56 55] (ops 0 [aa 57 5,ao 58 .add 57 1,aa 5 58])) skip))).seq (ops 0 [aa 36 7,ao 37 .add 36 1,aa 7 37]))).loop)).seq (ab [aa 59 0,aa 60 5,cO 61 (sls 1 (t 59) (some (t 60)) none none),Op2.mk none none (clr 1 AV.esl (t 61))] (ab [aa 62 0,aa 63 5,cO 64 (sls 1 (t 62) none (some (t 63)) none),aa 4 64] ret)))) skip))).seq (ops 0 [aa 16 5,ao 17 .add 16 1,aa 5 17]))).loop)).seq (ab [aa 65 0,aa 4 65] ret)))))
theorem yz:Is Try.prog 43 b43:=Is.mk' Try.func43 (by kernel_rfl)
def b44:F2:=(F2.mk 10 [RV.t 6] (ab [cO 3 (box (t 0)),cO 5 (box (t 2)),cO 6 (mov be)] (ab [aa 7 1,cO 8 (mkfn 65 [t 3,t 5]),aN 9 64 [t 7,t 8],aa 6 9] ret)))
theorem zH:Is Try.prog 44 b44:=Is.mk' Try.func44 (by kernel_rfl)
def b45:F2:=(F2.mk 8 [RV.t 2] (ab [cO 2 (mov (c AV.esl))] ((ab [aa 3 0,cO 4 (snil false (t 3))] (az 4 (ab [cO 2 (mov (c AV.esl))] ret) skip)).seq (ab [cO 5 (bldS 2 0 [bE,bE] []),aa 6 0,cO 7 (app 2 16 (t 5) (t 6)),aa 2 7] ret))))
theorem zs:Is Try.prog 45 b45:=Is.mk' Try.func45 (by kernel_rfl)
def b46:F2:=(F2.mk 23 [RV.t 4] (ab [cO 4 (mov (c AV.esl))] (ab [cO 5 (mov (c AV.esl))] ((ab [aa 8 0,bq 9 8,cO 10 (mov (cN 0))] (block 0 (ab [aF 11 .lss 10 9] ((az 11 skip (exit 0)).seq ((block 1 (ab [cO 12 (ixaS 2 (t 8) (t 10)),aS 13 2 12,cO 7 (alloc (AV.agg [bE,bE])),aW 2 7 13] (ab [aa 14 1,aS 15 2 7,cO 16 (call (t 14) [t 15])] (az 16 (ops 0 [aa 17 5,aS 18 2 7,cO 19 (bldS 2 1 [bE,bE] [(0,2,t 18)]),cO 20 (app 2 16 (t 17) (t 19)),aa 5 20]) skip)))).seq (ops 0 [ao 21 .add 10 1,aa 10 21])))).loop)).seq (ab [aa 22 5,aa 4 22] ret)))))
theorem zt:Is Try.prog 46 b46:=Is.mk' Try.func46 (by kernel_rfl)
def b47:F2:=(F2.mk 19 [RV.t 4] (ab [cO 3 (box (t 1)),cO 4 (mov (cN 0))] ((ab [aa 6 0,bq 7 6,cO 8 (mov (cN 0))] (block 0 (ab [aF 9 .lss 8 7] ((az 9 skip (exit 0)).seq ((block 1 (ab [aa 10 8,aa 5 10] ((ops 1 [aS 11 2 3,aa 12 0,aa 13 5,cO 14 (ixaS 2 (t 12) (t 13)),aS 15 2 14,cO 16 (binS BinOp.eql [int,int] (t 11) (t 15))]).seq (az 16 (ab [aa 17 5,aa 4 17] ret) skip)))).seq (ops 0 [ao 18 .add 8 1,aa 8 18])))).loop)).seq (ab [cO 4 (mov (cN ((-1))))] ret))))
theorem AP:Is Try.prog 47 b47:=Is.mk' Try.func47 (by kernel_rfl)
def b48:F2:=(F2.mk 36 [RV.t 2] (ab [cO 2 (mov (c AV.esl))] (ab [cO 3 (mov (cN 0))] ((ab [aa 9 0,bq 10 9,cO 11 (mov (cN 0))] (block 0 (ab [aF 12 .lss 11 10] ((az 12 skip (exit 0)).seq ((block 1 (ab [cO 13 (ixaS 1 (t 9) (t 11)),aP 14 13,aa 5 14] (ab [aa 15 3,aa 16 5,bq 17 16,aF 18 .add 15 17,aa 3 18] (ab [aa 19 3,ao 20 .lss 19 0] (az 20 (ops 0 [cO 21 dead,Op2.mk none none dead]) skip))))).seq (ops 0 [ao 22 .add 11 1,aa 11 22])))).loop)).seq (ab [aa 23 3,aN 24 66 [c AV.esl,t 23],aa 6 24] ((ab [aa 25 0,bq 26 25,cO 27 (mov (cN 0))] (block 2 (ab [aF 28 .lss 27 26] ((az 28 skip (exit 2)).seq ((block 3 (ab [cO 29 (ixaS 1 (t 25) (t 27)),aP 30 29,aa 8 30] (ops 0 [aa 31 6,aa 32 8,cO 33 (app 2 16 (t 31) (t 32)),aa 6 33]))).seq (ops 0 [ao 34 .add 27 1,aa 27 34])))).loop)).seq (ab [aa 35 6,aa 2 35] ret)))))))
theorem A0:Is Try.prog 48 b48:=Is.mk' Try.func48 (by kernel_rfl)
def b49:F2:=(F2.mk 14 [] (ab [aa 5 0,bq 6 5,aa 4 6] (ops 0 [aa 7 0,aa 8 4,aa 9 4,cO 10 (conv IntKind.u64 (t 9)),aN 11 62 [t 10],aa 12 1,aN 13 67 ([t 7,cN ((0)),t 8,t 11,t 12])])))
theorem y7:Is Try.prog 49 b49:=Is.mk' Try.func49 (by kernel_rfl)
def b50:F2:=(F2.mk 10 [RV.t 4] (ab [cO 2 (box (t 0)),cO 3 (box (t 1)),cO 4 (mov (cN 0))] (ab [aS 5 2 2,cO 6 (bldS 2 1 [bE,bE] [(0,2,t 5)]),aS 7 2 3,cO 8 (bldS 2 1 [bE,bE] [(0,2,t 7)]),aN 9 42 [t 6,t 8],aa 4 9] ret)))
theorem Bj:Is Try.prog 50 b50:=Is.mk' Try.func50 (by kernel_rfl)
def b51:F2:=(F2.mk 61 [RV.t 2] (ab [cO 2 (mov (c AV.esl))] ((ab [aa 6 0,bq 7 6,ao 8 .lss 7 2] (az 8 (ab [aa 9 0,aa 2 9] ret) skip)).seq ((ab [cO 3 (mov (cN 1))] (block 0 ((ab [aa 10 3,aa 11 0,bq 12 11,aF 13 .lss 10 12] (az 13 skip (exit 0))).seq ((block 1 ((ops 1 [aa 16 0,aa 17 3,cO 18 (ixaS 2 (t 16) (t 17)),aS 19 2 18,aa 20 0,aa 21 3,ao 22 .sub 21 1,cO 23 (ixaS 2 (t 20) (t 22)),aS 24 2 23,cO 25 (binS BinOp.eql [int,int] (t 19) (t 24))]).seq (az 25 (ab [aa 26 0,aa 27 3,cO 28 (sls 2 (t 26) (some (t 27)) none none),aa 4 28] ((ab [cO 5 (mov (cN 1))] (block 2 ((ab [aa 29 5,aa 30 4,bq 31 30,aF 32 .lss 29 31] (az 32 skip (exit 2))).seq ((block 3 ((ops 1 [aa 35 4,aa 36 5,cO 37 (ixaS 2 (t 35) (t 36)),aS 38 2 37,aa 39 4,aa 40 5,ao 41 .sub 40 1,cO 42 (ixaS 2 (t 39) (t 41)),aS 43 2 42,cO 44 (binS BinOp.neq [int,int] (t 38) (t 43))]).seq (az 44 (ab [aa 45 0,aa 46 3,aa 47 4,aa 48 5,cO 49 (ixaS 2 (t 47) (t 48)),aS 50 2 49,cO 51 (ixaS 2 (t 45) (t 46)),aW 2 51 50] (ops 0 [aa 52 3,ao 53 .add 52 1,aa 3 53])) skip))).seq (ops 0 [aa 33 5,ao 34 .add 33 1,aa 5 34]))).loop)).seq (ab [aa 54 0,aa 55 3,cO 56 (sls 2 (t 54) (some (t 55)) none none),Op2.mk none none (clr 2 (AV.agg [bE,bE]) (t 56))] (ab [aa 57 0,aa 58 3,cO 59 (sls 2 (t 57) none (some (t 58)) none),aa 2 59] ret)))) skip))).seq (ops 0 [aa 14 3,ao 15 .add 14 1,aa 3 15]))).loop)).seq (ab [aa 60 0,aa 2 60] ret)))))
theorem yr:Is Try.prog 51 b51:=Is.mk' Try.func51 (by kernel_rfl)
def b52:F2:=(F2.mk 9 [RV.t 4] (ab [cO 4 (mov be)] (ab [aa 5 0,aa 6 1,aN 7 35 [t 5,t 6],ao 8 .eql 7 0,aa 4 8] ret)))
theorem Bx:Is Try.prog 52 b52:=Is.mk' Try.func52 (by kernel_rfl)
def b53:F2:=(F2.mk 54 [RV.t 2] (ab [cO 1 (box (t 0)),cO 2 (mov (cN 0))] ((block 0 (ab [cp 6 0 1,aP 7 6,bq 8 7,ao 9 .gtr 8 4096,aa 5 9] (az 5 (ab [cO 2 (mov (cN 5))] ret) (ab [cp 11 1 1,aP 12 11,bq 13 12,cp 14 0 1,aP 15 14,bq 16 15,aF 17 .neq 13 16,aa 10 17] (az 10 (ab [cO 2 (mov (cN 15))] ret) skip))))).seq ((ab [cp 18 0 1,aP 19 18,bq 20 19,cO 21 (mov (cN 0))] (block 1 (ab [aF 22 .lss 21 20] ((az 22 skip (exit 1)).seq ((block 2 (ab [aa 23 21,cO 24 (ixaS 2 (t 19) (t 21)),aS 25 2 24,cO 4 (alloc (AV.agg [bE,bE])),aa 3 23,aW 2 4 25] (block 3 (ab [aS 27 2 4,aN 28 68 [t 27],cO 29 (un UnOp.not (t 28)),aa 30 29,dx 31 30 (fa 1 (t 1)),dx 32 30 (cD 31),dx 33 30 (cM 3),dx 34 30 (ixaS 2 (t 32) (t 33)),dx 35 30 (ldn 2 (t 34)),dx 36 30 (call (cF 68) [t 35]),dx 37 30 (un UnOp.not (t 36)),cO 38 (pick (t 30) eN (t 37)),aa 26 38] (az 26 (ab [cO 2 (mov (cN 2))] ret) ((mixS 1 [aa 40 3,ao 41 .gtr 40 0,aa 42 41,ah 43 42 (fa 0 (t 1)),ah 44 42 (cD 43),ah 45 42 (cM 3),ah 46 42 (cB .sub (t 45) (cN 1)),ah 47 42 (ixaS 2 (t 44) (t 46)),ah 48 42 (ldn 2 (t 47)),ah 49 42 (ldn 2 (t 4)),ah 50 42 (call (cF 69) [t 48,t 49]),ah 51 42 (cB .geq (t 50) (cN 0)),cO 52 (pick (t 42) (t 51) be),aa 39 52] [(0,0),(1,0),(2,0),(3,0),(4,0),(5,0),(6,0),(7,0),(8,0),(9,0),(10,2),(11,0),(12,0),(13,0)]).seq (az 39 (ab [cO 2 (mov (cN 14))] ret) skip))))))).seq (ops 0 [ao 53 .add 21 1,aa 21 53])))).loop)).seq (ab [cO 2 (mov (cN 0))] ret)))))
theorem Bs:Is Try.prog 53 b53:=Is.mk' Try.func53 (by kernel_rfl)
def b54:F2:=(F2.mk 34 [RV.t 4,RV.t 5] (ab [cO 4 (mov (c AV.esl)),cO 5 (mov be)] (ab [cO 6 (mov (c AV.esl))] ((ab [aa 11 1,bq 12 11,cO 13 (mov (cN 0))] (block 0 (ab [aF 14 .lss 13 12] ((az 14 skip (exit 0)).seq ((block 1 (ab [cO 15 (ixaS 2 (t 11) (t 13)),aS 16 2 15,cO 8 (alloc (AV.agg [bE,bE])),aW 2 8 16] (ab [aa 18 0,aS 19 2 8,cO 20 (Ins.mget (MK.st [int,int]) (AV.agg [bE,bE]) true (t 18) (t 19)),aa 17 20,cf 21 17 0,cf 22 17 1,cO 9 (alloc (AV.agg [bE,bE])),aW 2 9 21,aa 10 22] ((ab [aa 23 10,cO 24 (un UnOp.not (t 23))] (az 24 (ab [cO 4 (mov (c AV.esl)),cO 5 (mov be)] ret) skip)).seq (ops 0 [aa 25 6,aS 26 2 9,cO 27 (bldS 2 1 [bE,bE] [(0,2,t 26)]),cO 28 (app 2 16 (t 25) (t 27)),aa 6 28]))))).seq (ops 0 [ao 29 .add 13 1,aa 13 29])))).loop)).seq (ab [aa 30 6,aN 31 49 ([t 30,c (AV.func 69 [])])] (ab [aa 32 6,aN 33 51 [t 32],aa 4 33,cO 5 (mov eN)] ret))))))
theorem Bn:Is Try.prog 54 b54:=Is.mk' Try.func54 (by kernel_rfl)
def b55:F2:=(F2.mk 6 [RV.t 2] (ab [cO 2 (mov be)] (ab [aa 3 0,bq 4 3,ao 5 .leq 4 10,aa 2 5] ret)))
theorem Bc:Is Try.prog 55 b55:=Is.mk' Try.func55 (by kernel_rfl)
def b56:F2:=(F2.mk 21 [RV.t 2] (ab [cO 1 (box (t 0)),cO 2 (mov be)] (ab [cp 3 0 1,aP 4 3,ao 5 .geq 4 0,aa 6 5,ah 7 6 (fa 0 (t 1)),ah 8 6 (cD 7),ah 9 6 (cB .lss (t 8) (cN 8)),cO 10 (pick (t 6) (t 9) be),aa 11 10,ah 12 11 (fa 1 (t 1)),ah 13 11 (cD 12),ah 14 11 (cB .geq (t 13) (cN 0)),cO 15 (pick (t 11) (t 14) be),aa 16 15,ah 17 16 (fa 1 (t 1)),ah 18 16 (cD 17),ah 19 16 (cB .leq (t 18) (cN 1048576)),cO 20 (pick (t 16) (t 19) be),aa 2 20] ret)))
theorem Br:Is Try.prog 56 b56:=Is.mk' Try.func56 (by kernel_rfl)
def b57:F2:=(F2.mk 29 [RV.t 4] (ab [cO 2 (box (t 0)),cO 3 (box (t 1)),cO 4 (mov (cN 0))] ((block 0 (ab [cp 6 0 2,aP 7 6,cp 8 0 3,aP 9 8,aF 10 .lss 7 9,aa 5 10] (az 5 (ab [cO 4 (mov (cN ((-1))))] ret) (ab [cp 12 0 2,aP 13 12,cp 14 0 3,aP 15 14,aF 16 .gtr 13 15,aa 11 16] (az 11 (ab [cO 4 (mov (cN 1))] ret) (ab [cp 18 1 2,aP 19 18,cp 20 1 3,aP 21 20,aF 22 .lss 19 21,aa 17 22] (az 17 (ab [cO 4 (mov (cN ((-1))))] ret) (ab [cp 24 1 2,aP 25 24,cp 26 1 3,aP 27 26,aF 28 .gtr 25 27,aa 23 28] (az 23 (ab [cO 4 (mov (cN 1))] ret) skip))))))))).seq (ab [cO 4 (mov (cN 0))] ret))))
theorem Bq:Is Try.prog 57 b57:=Is.mk' Try.func57 (by kernel_rfl)
def b58:F2:=(F2.mk 18 [RV.t 4] (ab [cO 3 (box (t 1)),cO 4 (mov be)] ((ab [cO 5 (mov (cN 0))] (block 0 ((ab [aa 6 5,aa 7 0,bq 8 7,aF 9 .lss 6 8] (az 9 skip (exit 0))).seq ((block 1 ((ops 1 [aa 12 0,aa 13 5,cO 14 (ixaS 2 (t 12) (t 13)),aS 15 2 14,aS 16 2 3,cO 17 (binS BinOp.eql [int,int] (t 15) (t 16))]).seq (az 17 (ab [cO 4 (mov eN)] ret) skip))).seq (ops 0 [aa 10 5,ao 11 .add 10 1,aa 5 11]))).loop)).seq (ab [cO 4 (mov be)] ret))))
theorem Bd:Is Try.prog 58 b58:=Is.mk' Try.func58 (by kernel_rfl)
def b59:F2:=(F2.mk 21 [RV.t 2] (ab [cO 1 (box (t 0)),cO 2 (mov be)] (ab [cp 3 0 1,aP 4 3,ao 5 .geq 4 0,aa 6 5,ah 7 6 (fa 0 (t 1)),ah 8 6 (cD 7),ah 9 6 (cB .lss (t 8) (cN 8)),cO 10 (pick (t 6) (t 9) be),aa 11 10,ah 12 11 (fa 1 (t 1)),ah 13 11 (cD 12),ah 14 11 (cB .geq (t 13) (cN 0)),cO 15 (pick (t 11) (t 14) be),aa 16 15,ah 17 16 (fa 1 (t 1)),ah 18 16 (cD 17),ah 19 16 (cB .leq (t 18) (cN 1048576)),cO 20 (pick (t 16) (t 19) be),aa 2 20] ret)))
theorem AN:Is Try.prog 59 b59:=Is.mk' Try.func59 (by kernel_rfl)
def b60:F2:=(F2.mk 17 [RV.t 4] (ab [cO 2 (box (t 0)),cO 3 (box (t 1)),cO 4 (mov (cN 0))] ((mixS 1 [cp 5 0 2,aP 6 5,cp 7 0 3,aP 8 7,aN 9 71 [t 6,t 8],cp 10 1 2,aP 11 10,cp 12 1 3,aP 13 12,aN 14 71 [t 11,t 13],cO 15 (bldS 1 2 [bE] [(0,1,t 9),(1,1,t 14)]),aN 16 70 [t 15],aa 4 16] [(0,0),(1,0),(2,0),(3,0),(5,0),(6,0),(7,0),(8,0),(4,1),(9,2),(10,2),(11,2),(12,0)]).seq ret)))
theorem Ac:Is Try.prog 60 b60:=Is.mk' Try.func60 (by kernel_rfl)
def b61:F2:=(F2.mk 148 [] (ab [cO 10 (mov eN)] (ab [cO 11 (mov eN)] (block 0 (block 1 (ab [aa 21 2,aa 22 1,aF 23 .sub 21 22,aa 12 23] ((ab [aa 24 12,ao 25 .leq 24 12] (az 25 (ab [aa 26 0,aa 27 1,aa 28 2,aa 29 4,aN 30 72 [t 26,t 27,t 28,t 29]] ret) skip)).seq ((ab [aa 31 3,ao 32 .eql 31 0] (az 32 (ab [aa 33 0,aa 34 1,aa 35 2,aa 36 4,aN 37 73 [t 33,t 34,t 35,t 36]] ret) skip)).seq ((ab [aa 38 10,cO 39 (un UnOp.not (t 38))] (az 39 (ab [aa 40 0,aa 41 1,aa 42 2,aa 43 4,aN 44 74 [t 40,t 41,t 42,t 43]] (ops 0 [aa 45 3,ao 46 .sub 45 1,aa 3 46])) skip)).seq (ab [aa 48 0,aa 49 1,aa 50 2,aa 51 4,aN 52 75 [t 48,t 49,t 50,t 51],aa 47 52,cf 53 47 0,cf 54 47 1,aa 13 53,aa 14 54] ((ab [aa 55 14,ao 56 .eql 55 2] (az 56 (ab [aa 57 0,aa 58 1,aa 59 2,aa 60 4,aN 61 76 [t 57,t 58,t 59,t 60]] (ab [aa 62 2,ao 63 .sub 62 1,aa 64 13,aa 65 1,aF 66 .sub 64 65,aF 67 .sub 63 66,aa 13 67] (ops 0 [cO 14 (mov (cN 1))]))) skip)).seq ((ab [aa 68 10,aa 69 68,ah 70 69 (cM 11),cO 71 (pick (t 69) (t 70) be),aa 72 71,ah 73 72 (cM 14),ah 74 72 (cB .eql (t 73) (cN 1)),cO 75 (pick (t 72) (t 74) be)] (az 75 (ab [aa 76 0,aa 77 1,aa 78 2,aa 79 4,aN 80 77 [t 76,t 77,t 78,t 79]] (az 80 ret skip)) skip)).seq (((mixS 1 [aa 81 1,ao 82 .gtr 81 0,aa 83 82,ah 84 83 (cM 4),ah 85 83 (cM 0),ah 86 83 (cM 1),ah 87 83 (cB .sub (t 86) (cN 1)),ah 88 83 (ixaS 1 (t 85) (t 87)),ah 89 83 (cD 88),ah 90 83 (cM 0),ah 91 83 (cM 13),ah 92 83 (ixaS 1 (t 90) (t 91)),ah 93 83 (cD 92),ah 94 83 (call (t 84) [t 89,t 93]),ah 95 83 (cB .lss (t 94) (cN 0)),ah 96 83 (un UnOp.not (t 95)),cO 97 (pick (t 83) (t 96) be)] [(0,0),(1,0),(2,0),(3,0),(4,0),(5,0),(6,0),(7,0),(8,0),(9,0),(10,0),(11,0),(12,0),(13,2),(14,0),(15,0),(16,0)]).seq (az 97 (ab [aa 98 0,aa 99 1,aa 100 2,aa 101 13,aa 102 4,aN 103 78 [t 98,t 99,t 100,t 101,t 102],aa 15 103] (ab [aa 104 15,aa 1 104] (exit 1))) skip)).seq (ab [aa 106 0,aa 107 1,aa 108 2,aa 109 13,aa 110 4,aN 111 79 [t 106,t 107,t 108,t 109,t 110],aa 105 111,cf 112 105 0,cf 113 105 1,aa 16 112,aa 17 113] (ab [aa 114 17,aa 11 114] (ab [aa 115 16,aa 116 1,aF 117 .sub 115 116,aa 118 2,aa 119 16,aF 120 .sub 118 119,aa 18 117,aa 19 120] (ab [aa 121 12,ao 122 .quo 121 8,aa 20 122] (ab [aa 123 18,aa 124 19,aF 125 .lss 123 124] (az 125 (ab [aa 126 18,aa 127 20,aF 128 .geq 126 127,aa 10 128] (ab [aa 129 0,aa 130 1,aa 131 16,aa 132 3,aa 133 4,aN 134 61 [t 129,t 130,t 131,t 132,t 133]] (ops 0 [aa 135 16,ao 136 .add 135 1,aa 1 136]))) (ab [aa 137 19,aa 138 20,aF 139 .geq 137 138,aa 10 139] (ab [aa 140 0,aa 141 16,ao 142 .add 141 1,aa 143 2,aa 144 3,aa 145 4,aN 146 61 [t 140,t 142,t 143,t 144,t 145]] (ops 0 [aa 147 16,aa 2 147])))))))))))))))))).loop))))
theorem yC:Is Try.prog 61 b61:=Is.mk' Try.func61 (by kernel_rfl)
def b62:F2:=(F2.mk 8 [RV.t 2] (ab [cO 2 (mov (cN 0))] ((C2.cond be (ab [aa 3 0,cO 4 (conv IntKind.u32 (t 3)),aN 5 80 [t 4],aa 2 5] ret) skip).seq (ab [aa 6 0,aN 7 81 [t 6],aa 2 7] ret))))
theorem yx:Is Try.prog 62 b62:=Is.mk' Try.func62 (by kernel_rfl)
def b63:F2:=(F2.mk 39 [RV.t 6] (ab [cO 6 (mov (cN 0))] ((ab [aa 11 0,bq 12 11,cO 13 (mov (cN 0))] (block 0 (ab [aF 14 .lss 13 12] ((az 14 skip (exit 0)).seq ((block 1 (ab [aa 15 13,cO 16 (ixaS 2 (t 11) (t 13)),aS 17 2 16,cO 8 (alloc (AV.agg [bE,bE])),aa 7 15,aW 2 8 17] ((ab [aa 18 7,aa 19 1,bq 20 19,aF 21 .geq 18 20] (az 21 (ab [cO 6 (mov (cN 1))] ret) skip)).seq (ab [aa 22 1,aa 23 7,cO 24 (ixaS 2 (t 22) (t 23)),aS 25 2 24,cO 9 (alloc (AV.agg [bE,bE])),aW 2 9 25] (ab [aa 26 2,aS 27 2 8,aS 28 2 9,cO 29 (call (t 26) [t 27,t 28]),aa 10 29] (ab [aa 30 10,ao 31 .neq 30 0] (az 31 (ab [aa 32 10,aa 6 32] ret) skip))))))).seq (ops 0 [ao 33 .add 13 1,aa 13 33])))).loop)).seq ((ab [aa 34 0,bq 35 34,aa 36 1,bq 37 36,aF 38 .lss 35 37] (az 38 (ab [cO 6 (mov (cN ((-1))))] ret) skip)).seq (ab [cO 6 (mov (cN 0))] ret)))))
theorem zZ:Is Try.prog 63 b63:=Is.mk' Try.func63 (by kernel_rfl)
def b64:F2:=(F2.mk 9 [RV.t 4] (ab [cO 4 (mov be)] (ab [aa 5 0,aa 6 1,aN 7 82 [t 5,t 6],ao 8 .geq 7 0,aa 4 8] ret)))
theorem zr:Is Try.prog 64 b64:=Is.mk' Try.func64 (by kernel_rfl)
def b65:F2:=(F2.mk 21 [RV.t 4] (ab [cO 4 (mov be)] ((mixS 1 [aP 5 1,aa 6 0,cO 7 (ixaS 1 (t 5) (t 6)),aP 8 7,bq 9 8,aP 10 2,bq 11 10,aF 12 .gtr 9 11,aa 13 12,ah 14 13 (cD 2),ah 15 13 (cD 1),ah 16 13 (cM 0),ah 17 13 (ixaS 1 (t 15) (t 16)),ah 18 13 (cD 17),ah 19 13 (call (cF 40) [t 14,t 18]),cO 20 (pick (t 13) (t 19) be),aa 4 20] [(0,0),(1,0),(2,0),(3,0),(4,0),(5,0),(6,0),(7,0),(8,0),(9,0),(10,0),(11,0),(12,0),(13,0),(14,2),(15,0),(16,0)]).seq ret)))
theorem zI:Is Try.prog 65 b65:=Is.mk' Try.func65 (by kernel_rfl)
def b66:F2:=(F2.mk 27 [RV.t 4] (ab [cO 4 (mov (c AV.esl))] ((ab [aa 5 1,ao 6 .lss 5 0] (az 6 (ops 0 [cO 7 dead,Op2.mk none none dead]) skip)).seq ((ab [aa 8 1,aa 9 0,cO 10 (capE (t 9)),aa 11 0,bq 12 11,aF 13 .sub 10 12,aF 14 .sub 8 13,aa 1 14] (ab [aa 15 1,ao 16 .gtr 15 0] (az 16 (ops 0 [aa 17 0,aa 18 0,cO 19 (capE (t 18)),cO 20 (sls 2 (t 17) none (some (t 19)) none),aa 21 1,cO 22 (apz 2 16 [bE,bE] (t 20) (t 21)),aa 23 0,bq 24 23,cO 25 (sls 2 (t 22) none (some (t 24)) none),aa 0 25]) skip))).seq (ab [aa 26 0,aa 4 26] ret)))))
theorem AQ:Is Try.prog 66 b66:=Is.mk' Try.func66 (by kernel_rfl)
def b67:F2:=(F2.mk 148 [] (ab [cO 10 (mov eN)] (ab [cO 11 (mov eN)] (block 0 (block 1 (ab [aa 21 2,aa 22 1,aF 23 .sub 21 22,aa 12 23] ((ab [aa 24 12,ao 25 .leq 24 12] (az 25 (ab [aa 26 0,aa 27 1,aa 28 2,aa 29 4,aN 30 83 [t 26,t 27,t 28,t 29]] ret) skip)).seq ((ab [aa 31 3,ao 32 .eql 31 0] (az 32 (ab [aa 33 0,aa 34 1,aa 35 2,aa 36 4,aN 37 84 [t 33,t 34,t 35,t 36]] ret) skip)).seq ((ab [aa 38 10,cO 39 (un UnOp.not (t 38))] (az 39 (ab [aa 40 0,aa 41 1,aa 42 2,aa 43 4,aN 44 85 [t 40,t 41,t 42,t 43]] (ops 0 [aa 45 3,ao 46 .sub 45 1,aa 3 46])) skip)).seq (ab [aa 48 0,aa 49 1,aa 50 2,aa 51 4,aN 52 86 [t 48,t 49,t 50,t 51],aa 47 52,cf 53 47 0,cf 54 47 1,aa 13 53,aa 14 54] ((ab [aa 55 14,ao 56 .eql 55 2] (az 56 (ab [aa 57 0,aa 58 1,aa 59 2,aa 60 4,aN 61 87 [t 57,t 58,t 59,t 60]] (ab [aa 62 2,ao 63 .sub 62 1,aa 64 13,aa 65 1,aF 66 .sub 64 65,aF 67 .sub 63 66,aa 13 67] (ops 0 [cO 14 (mov (cN 1))]))) skip)).seq ((ab [aa 68 10,aa 69 68,ah 70 69 (cM 11),cO 71 (pick (t 69) (t 70) be),aa 72 71,ah 73 72 (cM 14),ah 74 72 (cB .eql (t 73) (cN 1)),cO 75 (pick (t 72) (t 74) be)] (az 75 (ab [aa 76 0,aa 77 1,aa 78 2,aa 79 4,aN 80 88 [t 76,t 77,t 78,t 79]] (az 80 ret skip)) skip)).seq (((mixS 1 [aa 81 1,ao 82 .gtr 81 0,aa 83 82,ah 84 83 (cM 4),ah 85 83 (cM 0),ah 86 83 (cM 1),ah 87 83 (cB .sub (t 86) (cN 1)),ah 88 83 (ixaS 2 (t 85) (t 87)),ah 89 83 (ldn 2 (t 88)),ah 90 83 (cM 0),ah 91 83 (cM 13),ah 92 83 (ixaS 2 (t 90) (t 91)),ah 93 83 (ldn 2 (t 92)),ah 94 83 (call (t 84) [t 89,t 93]),ah 95 83 (cB .lss (t 94) (cN 0)),ah 96 83 (un UnOp.not (t 95)),cO 97 (pick (t 83) (t 96) be)] [(0,0),(1,0),(2,0),(3,0),(4,0),(5,0),(6,0),(7,0),(8,0),(9,0),(10,0),(11,0),(12,0),(13,2),(14,0),(15,0),(16,0)]).seq (az 97 (ab [aa 98 0,aa 99 1,aa 100 2,aa 101 13,aa 102 4,aN 103 89 [t 98,t 99,t 100,t 101,t 102],aa 15 103] (ab [aa 104 15,aa 1 104] (exit 1))) skip)).seq (ab [aa 106 0,aa 107 1,aa 108 2,aa 109 13,aa 110 4,aN 111 90 [t 106,t 107,t 108,t 109,t 110],aa 105 111,cf 112 105 0,cf 113 105 1,aa 16 112,aa 17 113] (ab [aa 114 17,aa 11 114] (ab [aa 115 16,aa 116 1,aF 117 .sub 115 116,aa 118 2,aa 119 16,aF 120 .sub 118 119,aa 18 117,aa 19 120] (ab [aa 121 12,ao 122 .quo 121 8,aa 20 122] (ab [aa 123 18,aa 124 19,aF 125 .lss 123 124] (az 125 (ab [aa 126 18,aa 127 20,aF 128 .geq 126 127,aa 10 128] (ab [aa 129 0,aa 130 1,aa 131 16,aa 132 3,aa 133 4,aN 134 67 [t 129,t 130,t 131,t 132,t 133]] (ops 0 [aa 135 16,ao 136 .add 135 1,aa 1 136]))) (ab [aa 137 19,aa 138 20,aF 139 .geq 137 138,aa 10 139] (ab [aa 140 0,aa 141 16,ao 142 .add 141 1,aa 143 2,aa 144 3,aa 145 4,aN 146 67 [t 140,t 142,t 143,t 144,t 145]] (ops 0 [aa 147 16,aa 2 147])))))))))))))))))).loop))))
theorem zc:Is Try.prog 67 b67:=Is.mk' Try.func67 (by kernel_rfl)
def b68:F2:=(F2.mk 21 [RV.t 2] (ab [cO 1 (box (t 0)),cO 2 (mov be)] (ab [cp 3 0 1,aP 4 3,ao 5 .geq 4 0,aa 6 5,ah 7 6 (fa 0 (t 1)),ah 8 6 (cD 7),ah 9 6 (cB .lss (t 8) (cN 8)),cO 10 (pick (t 6) (t 9) be),aa 11 10,ah 12 11 (fa 1 (t 1)),ah 13 11 (cD 12),ah 14 11 (cB .geq (t 13) (cN 0)),cO 15 (pick (t 11) (t 14) be),aa 16 15,ah 17 16 (fa 1 (t 1)),ah 18 16 (cD 17),ah 19 16 (cB .leq (t 18) (cN 1048576)),cO 20 (pick (t 16) (t 19) be),aa 2 20] ret)))
theorem Bo:Is Try.prog 68 b68:=Is.mk' Try.func68 (by kernel_rfl)
def b69:F2:=(F2.mk 17 [RV.t 4] (ab [cO 2 (box (t 0)),cO 3 (box (t 1)),cO 4 (mov (cN 0))] ((mixS 1 [cp 5 0 2,aP 6 5,cp 7 0 3,aP 8 7,aN 9 71 [t 6,t 8],cp 10 1 2,aP 11 10,cp 12 1 3,aP 13 12,aN 14 71 [t 11,t 13],cO 15 (bldS 1 2 [bE] [(0,1,t 9),(1,1,t 14)]),aN 16 70 [t 15],aa 4 16] [(0,0),(1,0),(2,0),(3,0),(5,0),(6,0),(7,0),(8,0),(4,1),(9,2),(10,2),(11,2),(12,0)]).seq ret)))
theorem Bt:Is Try.prog 69 b69:=Is.mk' Try.func69 (by kernel_rfl)
def b70:F2:=(F2.mk 18 [RV.t 2] (ab [cO 2 (mov (cN 0))] (ab [cO 3 (mov (cN 0))] ((ab [aa 6 0,bq 7 6,cO 8 (mov (cN 0))] (block 0 (ab [aF 9 .lss 8 7] ((az 9 skip (exit 0)).seq ((block 1 (ab [cO 10 (ixaS 1 (t 6) (t 8)),aP 11 10,aa 5 11] (ab [aa 12 5,aa 13 3,aF 14 .neq 12 13] (az 14 (ab [aa 15 5,aa 2 15] ret) skip)))).seq (ops 0 [ao 16 .add 8 1,aa 8 16])))).loop)).seq (ab [aa 17 3,aa 2 17] ret)))))
theorem AS:Is Try.prog 70 b70:=Is.mk' Try.func70 (by kernel_rfl)
def b71:F2:=(F2.mk 20 [RV.t 4] (ab [cO 4 (mov (cN 0))] (ab [aa 7 0,aN 8 91 [t 7],aa 5 8] (ab [aa 9 1,aN 10 91 [t 9],aa 6 10] ((ab [aa 11 5] (az 11 ((ab [aa 12 6] (az 12 (ab [cO 4 (mov (cN 0))] ret) skip)).seq (ab [cO 4 (mov (cN ((-1))))] ret)) skip)).seq ((ab [aa 13 6] (az 13 (ab [cO 4 (mov (cN 1))] ret) skip)).seq ((ab [aa 14 0,aa 15 1,aF 16 .lss 14 15] (az 16 (ab [cO 4 (mov (cN ((-1))))] ret) skip)).seq ((ab [aa 17 0,aa 18 1,aF 19 .gtr 17 18] (az 19 (ab [cO 4 (mov (cN 1))] ret) skip)).seq (ab [cO 4 (mov (cN 0))] ret)))))))))
theorem zC:Is Try.prog 71 b71:=Is.mk' Try.func71 (by kernel_rfl)
def b72:F2:=(F2.mk 53 [] (ab [aa 10 1,ao 11 .add 10 1,aa 8 11] (block 0 ((ab [aa 12 8,aa 13 2,aF 14 .lss 12 13] (az 14 skip (exit 0))).seq ((block 1 (ab [aa 17 8,aa 9 17] (block 2 (((mixS 1 [aa 18 9,aa 19 1,aF 20 .gtr 18 19,aa 21 20,ah 22 21 (cM 3),ah 23 21 (cM 0),ah 24 21 (cM 9),ah 25 21 (ixaS 1 (t 23) (t 24)),ah 26 21 (cD 25),ah 27 21 (cM 0),ah 28 21 (cM 9),ah 29 21 (cB .sub (t 28) (cN 1)),ah 30 21 (ixaS 1 (t 27) (t 29)),ah 31 21 (cD 30),ah 32 21 (call (t 22) [t 26,t 31]),ah 33 21 (cB .lss (t 32) (cN 0)),cO 34 (pick (t 21) (t 33) be)] [(0,0),(1,0),(2,0),(3,0),(4,0),(5,0),(6,0),(7,0),(8,0),(9,0),(10,0),(11,0),(12,0),(13,0),(14,2),(15,0),(16,0)]).seq (az 34 skip (exit 2))).seq ((block 3 (ops 1 [aa 37 0,aa 38 9,aa 39 0,aa 40 9,ao 41 .sub 40 1,aa 42 0,aa 43 9,ao 44 .sub 43 1,cO 45 (ixaS 1 (t 42) (t 44)),aP 46 45,aa 47 0,aa 48 9,cO 49 (ixaS 1 (t 47) (t 48)),aP 50 49,cO 51 (ixaS 1 (t 37) (t 38)),aW 1 51 46,cO 52 (ixaS 1 (t 39) (t 41)),aW 1 52 50])).seq (ops 0 [aa 35 9,ao 36 .sub 35 1,aa 9 36]))).loop))).seq (ops 0 [aa 15 8,ao 16 .add 15 1,aa 8 16]))).loop)))
theorem yY:Is Try.prog 72 b72:=Is.mk' Try.func72 (by kernel_rfl)
def b73:F2:=(F2.mk 60 [] (ab [aa 13 1,aa 8 13] (ab [cO 9 (mov (cN 0))] (ab [aa 14 2,aa 15 1,aF 16 .sub 14 15,aa 10 16] ((ab [aa 17 10,ao 18 .sub 17 1,ao 19 .quo 18 2,aa 11 19] (block 0 ((ab [aa 20 11,ao 21 .geq 20 0] (az 21 skip (exit 0))).seq ((block 1 (ops 0 [aa 24 0,aa 25 11,aa 26 10,aa 27 8,aa 28 3,aN 29 92 [t 24,t 25,t 26,t 27,t 28]])).seq (ops 0 [aa 22 11,ao 23 .sub 22 1,aa 11 23]))).loop)).seq (ab [aa 30 10,ao 31 .sub 30 1,aa 12 31] (block 2 ((ab [aa 32 12,ao 33 .geq 32 0] (az 33 skip (exit 2))).seq ((block 3 ((ops 1 [aa 36 0,aa 37 8,aa 38 0,aa 39 8,aa 40 12,aF 41 .add 39 40,aa 42 0,aa 43 8,aa 44 12,aF 45 .add 43 44,cO 46 (ixaS 1 (t 42) (t 45)),aP 47 46,aa 48 0,aa 49 8,cO 50 (ixaS 1 (t 48) (t 49)),aP 51 50,cO 52 (ixaS 1 (t 36) (t 37)),aW 1 52 47,cO 53 (ixaS 1 (t 38) (t 41)),aW 1 53 51]).seq (ops 0 [aa 54 0,aa 55 9,aa 56 12,aa 57 8,aa 58 3,aN 59 92 [t 54,t 55,t 56,t 57,t 58]]))).seq (ops 0 [aa 34 12,ao 35 .sub 34 1,aa 12 35]))).loop)))))))
theorem z8:Is Try.prog 73 b73:=Is.mk' Try.func73 (by kernel_rfl)
def b74:F2:=(F2.mk 67 [] (ab [aa 13 2,aa 14 1,aF 15 .sub 13 14,aa 8 15] (ab [aa 16 8,ao 17 .geq 16 8] (az 17 (ab [aa 18 8,cO 19 (conv IntKind.u64 (t 18)),cO 9 (alloc (AV.int IntKind.u64 (0))),aW 1 9 19] (ab [aa 20 8,aN 21 93 [t 20],aa 10 21] (ab [aa 22 1,aa 23 8,ao 24 .quo 23 4,ao 25 .mul 24 2,aF 26 .add 22 25,ao 27 .sub 26 1,aa 11 27] (block 0 ((ab [aa 28 11,aa 29 1,aa 30 8,ao 31 .quo 30 4,ao 32 .mul 31 2,aF 33 .add 29 32,ao 34 .add 33 1,aF 35 .leq 28 34] (az 35 skip (exit 0))).seq ((block 1 (ab [aN 38 94 [t 9],aa 39 10,cO 40 (cB .sub (t 39) (c (AV.int IntKind.u64 (1)))),aF 41 .and 38 40,cO 42 (conv IntKind.i64 (t 41)),aa 12 42] ((ab [aa 43 12,aa 44 8,aF 45 .geq 43 44] (az 45 (ops 0 [aa 46 12,aa 47 8,aF 48 .sub 46 47,aa 12 48]) skip)).seq (ops 1 [aa 49 0,aa 50 11,aa 51 0,aa 52 1,aa 53 12,aF 54 .add 52 53,aa 55 0,aa 56 1,aa 57 12,aF 58 .add 56 57,cO 59 (ixaS 1 (t 55) (t 58)),aP 60 59,aa 61 0,aa 62 11,cO 63 (ixaS 1 (t 61) (t 62)),aP 64 63,cO 65 (ixaS 1 (t 49) (t 50)),aW 1 65 60,cO 66 (ixaS 1 (t 51) (t 54)),aW 1 66 64])))).seq (ops 0 [aa 36 11,ao 37 .add 36 1,aa 11 37]))).loop)))) skip))))
theorem zw:Is Try.prog 74 b74:=Is.mk' Try.func74 (by kernel_rfl)
def b75:F2:=(F2.mk 63 [RV.t 8,RV.t 9] (ab [cO 8 (mov (cN 0)),cO 9 (mov (cN 0))] (ab [aa 15 2,aa 16 1,aF 17 .sub 15 16,aa 10 17] (ab [cO 11 (alloc (bE))] (ab [aa 18 1,aa 19 10,ao 20 .quo 19 4,ao 21 .mul 20 1,aF 22 .add 18 21,aa 12 22] (ab [aa 23 1,aa 24 10,ao 25 .quo 24 4,ao 26 .mul 25 2,aF 27 .add 23 26,aa 13 27] (ab [aa 28 1,aa 29 10,ao 30 .quo 29 4,ao 31 .mul 30 3,aF 32 .add 28 31,aa 14 32] ((ab [aa 33 10,ao 34 .geq 33 8] (az 34 ((ab [aa 35 10,ao 36 .geq 35 50] (az 36 (ab [aa 37 0,aa 38 12,aa 39 3,aN 40 95 [t 37,t 38,t 11,t 39],aa 12 40] (ab [aa 41 0,aa 42 13,aa 43 3,aN 44 95 [t 41,t 42,t 11,t 43],aa 13 44] (ops 0 [aa 45 0,aa 46 14,aa 47 3,aN 48 95 [t 45,t 46,t 11,t 47],aa 14 48]))) skip)).seq (ops 0 [aa 49 0,aa 50 12,aa 51 13,aa 52 14,aa 53 3,aN 54 96 [t 49,t 50,t 51,t 52,t 11,t 53],aa 13 54])) skip)).seq (ab [aP 55 11] (block 0 (ab [ao 58 .eql 55 0,aa 57 58] (az 57 (ab [aa 59 13,aa 8 59,cO 9 (mov (cN 1))] ret) (ab [ao 61 .eql 55 12,aa 60 61] (az 60 (ab [aa 62 13,aa 8 62,cO 9 (mov (cN 2))] ret) (ab [aa 56 13,aa 8 56,cO 9 (mov (cN 0))] ret)))))))))))))))
theorem zx:Is Try.prog 75 b75:=Is.mk' Try.func75 (by kernel_rfl)
def b76:F2:=(F2.mk 34 [] (ab [aa 10 1,aa 8 10] (ab [aa 11 2,ao 12 .sub 11 1,aa 9 12] (block 0 ((ab [aa 13 8,aa 14 9,aF 15 .lss 13 14] (az 15 skip (exit 0))).seq (block 1 ((ops 1 [aa 16 0,aa 17 8,aa 18 0,aa 19 9,aa 20 0,aa 21 9,cO 22 (ixaS 1 (t 20) (t 21)),aP 23 22,aa 24 0,aa 25 8,cO 26 (ixaS 1 (t 24) (t 25)),aP 27 26,cO 28 (ixaS 1 (t 16) (t 17)),aW 1 28 23,cO 29 (ixaS 1 (t 18) (t 19)),aW 1 29 27]).seq (ab [aa 30 8,ao 31 .add 30 1,aa 8 31] (ops 0 [aa 32 9,ao 33 .sub 32 1,aa 9 33]))))).loop))))
theorem Ag:Is Try.prog 76 b76:=Is.mk' Try.func76 (by kernel_rfl)
def b77:F2:=(F2.mk 141 [RV.t 8] (ab [cO 8 (mov be)] (ab [aa 13 1,ao 14 .add 13 1,aa 9 14] ((ab [cO 10 (mov (cN 0))] (block 0 ((ab [aa 15 10,ao 16 .lss 15 5] (az 16 skip (exit 0))).seq ((block 1 ((block 2 (((mixS 1 [aa 19 9,aa 20 2,aF 21 .lss 19 20,aa 22 21,ah 23 22 (cM 3),ah 24 22 (cM 0),ah 25 22 (cM 9),ah 26 22 (ixaS 1 (t 24) (t 25)),ah 27 22 (cD 26),ah 28 22 (cM 0),ah 29 22 (cM 9),ah 30 22 (cB .sub (t 29) (cN 1)),ah 31 22 (ixaS 1 (t 28) (t 30)),ah 32 22 (cD 31),ah 33 22 (call (t 23) [t 27,t 32]),ah 34 22 (cB .lss (t 33) (cN 0)),ah 35 22 (un UnOp.not (t 34)),cO 36 (pick (t 22) (t 35) be)] [(0,0),(1,0),(2,0),(3,0),(4,0),(5,0),(6,0),(7,0),(8,0),(9,0),(10,0),(11,0),(12,0),(13,0),(14,2),(15,0),(16,0),(17,0)]).seq (az 36 skip (exit 2))).seq (block 3 (ops 0 [aa 37 9,ao 38 .add 37 1,aa 9 38]))).loop).seq ((ab [aa 39 9,aa 40 2,aF 41 .eql 39 40] (az 41 (ab [cO 8 (mov eN)] ret) skip)).seq ((ab [aa 42 2,aa 43 1,aF 44 .sub 42 43,ao 45 .lss 44 50] (az 45 (ab [cO 8 (mov be)] ret) skip)).seq ((ops 1 [aa 46 0,aa 47 9,aa 48 0,aa 49 9,ao 50 .sub 49 1,aa 51 0,aa 52 9,ao 53 .sub 52 1,cO 54 (ixaS 1 (t 51) (t 53)),aP 55 54,aa 56 0,aa 57 9,cO 58 (ixaS 1 (t 56) (t 57)),aP 59 58,cO 60 (ixaS 1 (t 46) (t 47)),aW 1 60 55,cO 61 (ixaS 1 (t 48) (t 50)),aW 1 61 59]).seq ((ab [aa 62 9,aa 63 1,aF 64 .sub 62 63,ao 65 .geq 64 2] (az 65 (ab [aa 66 9,ao 67 .sub 66 1,aa 11 67] (block 4 ((ab [aa 68 11,ao 69 .geq 68 1] (az 69 skip (exit 4))).seq ((block 5 (((mixS 1 [aa 72 3,aa 73 0,aa 74 11,cO 75 (ixaS 1 (t 73) (t 74)),aP 76 75,aa 77 0,aa 78 11,ao 79 .sub 78 1,cO 80 (ixaS 1 (t 77) (t 79)),aP 81 80,cO 82 (call (t 72) [t 76,t 81]),ao 83 .lss 82 0,cO 84 (un UnOp.not (t 83))] [(0,0),(1,0),(2,0),(3,0),(4,0),(5,0),(6,0),(7,0),(8,0),(9,0),(10,2),(11,0),(12,0)]).seq (az 84 (exit 4) skip)).seq (ops 1 [aa 85 0,aa 86 11,aa 87 0,aa 88 11,ao 89 .sub 88 1,aa 90 0,aa 91 11,ao 92 .sub 91 1,cO 93 (ixaS 1 (t 90) (t 92)),aP 94 93,aa 95 0,aa 96 11,cO 97 (ixaS 1 (t 95) (t 96)),aP 98 97,cO 99 (ixaS 1 (t 85) (t 86)),aW 1 99 94,cO 100 (ixaS 1 (t 87) (t 89)),aW 1 100 98]))).seq (ops 0 [aa 70 11,ao 71 .sub 70 1,aa 11 71]))).loop)) skip)).seq (ab [aa 101 2,aa 102 9,aF 103 .sub 101 102,ao 104 .geq 103 2] (az 104 (ab [aa 105 9,ao 106 .add 105 1,aa 12 106] (block 6 ((ab [aa 107 12,aa 108 2,aF 109 .lss 107 108] (az 109 skip (exit 6))).seq ((block 7 (((mixS 1 [aa 112 3,aa 113 0,aa 114 12,cO 115 (ixaS 1 (t 113) (t 114)),aP 116 115,aa 117 0,aa 118 12,ao 119 .sub 118 1,cO 120 (ixaS 1 (t 117) (t 119)),aP 121 120,cO 122 (call (t 112) [t 116,t 121]),ao 123 .lss 122 0,cO 124 (un UnOp.not (t 123))] [(0,0),(1,0),(2,0),(3,0),(4,0),(5,0),(6,0),(7,0),(8,0),(9,0),(10,2),(11,0),(12,0)]).seq (az 124 (exit 6) skip)).seq (ops 1 [aa 125 0,aa 126 12,aa 127 0,aa 128 12,ao 129 .sub 128 1,aa 130 0,aa 131 12,ao 132 .sub 131 1,cO 133 (ixaS 1 (t 130) (t 132)),aP 134 133,aa 135 0,aa 136 12,cO 137 (ixaS 1 (t 135) (t 136)),aP 138 137,cO 139 (ixaS 1 (t 125) (t 126)),aW 1 139 134,cO 140 (ixaS 1 (t 127) (t 129)),aW 1 140 138]))).seq (ops 0 [aa 110 12,ao 111 .add 110 1,aa 12 111]))).loop)) skip)))))))).seq (ops 0 [aa 17 10,ao 18 .add 17 1,aa 10 18]))).loop)).seq (ab [cO 8 (mov be)] ret)))))
theorem Am:Is Try.prog 77 b77:=Is.mk' Try.func77 (by kernel_rfl)
def b78:F2:=(F2.mk 90 [RV.t 10] (ab [cO 10 (mov (cN 0))] ((ops 1 [aa 13 0,aa 14 1,aa 15 0,aa 16 3,aa 17 0,aa 18 3,cO 19 (ixaS 1 (t 17) (t 18)),aP 20 19,aa 21 0,aa 22 1,cO 23 (ixaS 1 (t 21) (t 22)),aP 24 23,cO 25 (ixaS 1 (t 13) (t 14)),aW 1 25 20,cO 26 (ixaS 1 (t 15) (t 16)),aW 1 26 24]).seq (ab [aa 27 1,ao 28 .add 27 1,aa 29 2,ao 30 .sub 29 1,aa 11 28,aa 12 30] ((block 0 (block 1 ((block 2 (((mixS 1 [aa 31 11,aa 32 12,aF 33 .leq 31 32,aa 34 33,ah 35 34 (cM 4),ah 36 34 (cM 0),ah 37 34 (cM 1),ah 38 34 (ixaS 1 (t 36) (t 37)),ah 39 34 (cD 38),ah 40 34 (cM 0),ah 41 34 (cM 11),ah 42 34 (ixaS 1 (t 40) (t 41)),ah 43 34 (cD 42),ah 44 34 (call (t 35) [t 39,t 43]),ah 45 34 (cB .lss (t 44) (cN 0)),ah 46 34 (un UnOp.not (t 45)),cO 47 (pick (t 34) (t 46) be)] [(0,0),(1,0),(2,0),(3,0),(4,0),(5,0),(6,0),(7,0),(8,0),(9,0),(10,0),(11,0),(12,0),(13,2),(14,0),(15,0),(16,0)]).seq (az 47 skip (exit 2))).seq (block 3 (ops 0 [aa 48 11,ao 49 .add 48 1,aa 11 49]))).loop).seq ((block 4 (((mixS 1 [aa 50 11,aa 51 12,aF 52 .leq 50 51,aa 53 52,ah 54 53 (cM 4),ah 55 53 (cM 0),ah 56 53 (cM 1),ah 57 53 (ixaS 1 (t 55) (t 56)),ah 58 53 (cD 57),ah 59 53 (cM 0),ah 60 53 (cM 12),ah 61 53 (ixaS 1 (t 59) (t 60)),ah 62 53 (cD 61),ah 63 53 (call (t 54) [t 58,t 62]),ah 64 53 (cB .lss (t 63) (cN 0)),cO 65 (pick (t 53) (t 64) be)] [(0,0),(1,0),(2,0),(3,0),(4,0),(5,0),(6,0),(7,0),(8,0),(9,0),(10,0),(11,0),(12,0),(13,2),(14,0),(15,0)]).seq (az 65 skip (exit 4))).seq (block 5 (ops 0 [aa 66 12,ao 67 .sub 66 1,aa 12 67]))).loop).seq ((ab [aa 68 11,aa 69 12,aF 70 .gtr 68 69] (az 70 (exit 0) skip)).seq ((ops 1 [aa 71 0,aa 72 11,aa 73 0,aa 74 12,aa 75 0,aa 76 12,cO 77 (ixaS 1 (t 75) (t 76)),aP 78 77,aa 79 0,aa 80 11,cO 81 (ixaS 1 (t 79) (t 80)),aP 82 81,cO 83 (ixaS 1 (t 71) (t 72)),aW 1 83 78,cO 84 (ixaS 1 (t 73) (t 74)),aW 1 84 82]).seq (ab [aa 85 11,ao 86 .add 85 1,aa 11 86] (ops 0 [aa 87 12,ao 88 .sub 87 1,aa 12 88]))))))).loop).seq (ab [aa 89 11,aa 10 89] ret))))))
theorem AC:Is Try.prog 78 b78:=Is.mk' Try.func78 (by kernel_rfl)
def b79:F2:=(F2.mk 178 [RV.t 10,RV.t 11] (ab [cO 10 (mov (cN 0)),cO 11 (mov be)] ((ops 1 [aa 14 0,aa 15 1,aa 16 0,aa 17 3,aa 18 0,aa 19 3,cO 20 (ixaS 1 (t 18) (t 19)),aP 21 20,aa 22 0,aa 23 1,cO 24 (ixaS 1 (t 22) (t 23)),aP 25 24,cO 26 (ixaS 1 (t 14) (t 15)),aW 1 26 21,cO 27 (ixaS 1 (t 16) (t 17)),aW 1 27 25]).seq (ab [aa 28 1,ao 29 .add 28 1,aa 30 2,ao 31 .sub 30 1,aa 12 29,aa 13 31] ((block 0 (((mixS 1 [aa 32 12,aa 33 13,aF 34 .leq 32 33,aa 35 34,ah 36 35 (cM 4),ah 37 35 (cM 0),ah 38 35 (cM 12),ah 39 35 (ixaS 1 (t 37) (t 38)),ah 40 35 (cD 39),ah 41 35 (cM 0),ah 42 35 (cM 1),ah 43 35 (ixaS 1 (t 41) (t 42)),ah 44 35 (cD 43),ah 45 35 (call (t 36) [t 40,t 44]),ah 46 35 (cB .lss (t 45) (cN 0)),cO 47 (pick (t 35) (t 46) be)] [(0,0),(1,0),(2,0),(3,0),(4,0),(5,0),(6,0),(7,0),(8,0),(9,0),(10,0),(11,0),(12,0),(13,2),(14,0),(15,0)]).seq (az 47 skip (exit 0))).seq (block 1 (ops 0 [aa 48 12,ao 49 .add 48 1,aa 12 49]))).loop).seq ((block 2 (((mixS 1 [aa 50 12,aa 51 13,aF 52 .leq 50 51,aa 53 52,ah 54 53 (cM 4),ah 55 53 (cM 0),ah 56 53 (cM 13),ah 57 53 (ixaS 1 (t 55) (t 56)),ah 58 53 (cD 57),ah 59 53 (cM 0),ah 60 53 (cM 1),ah 61 53 (ixaS 1 (t 59) (t 60)),ah 62 53 (cD 61),ah 63 53 (call (t 54) [t 58,t 62]),ah 64 53 (cB .lss (t 63) (cN 0)),ah 65 53 (un UnOp.not (t 64)),cO 66 (pick (t 53) (t 65) be)] [(0,0),(1,0),(2,0),(3,0),(4,0),(5,0),(6,0),(7,0),(8,0),(9,0),(10,0),(11,0),(12,0),(13,2),(14,0),(15,0),(16,0)]).seq (az 66 skip (exit 2))).seq (block 3 (ops 0 [aa 67 13,ao 68 .sub 67 1,aa 13 68]))).loop).seq ((ab [aa 69 12,aa 70 13,aF 71 .gtr 69 70] (az 71 ((ops 1 [aa 72 0,aa 73 13,aa 74 0,aa 75 1,aa 76 0,aa 77 1,cO 78 (ixaS 1 (t 76) (t 77)),aP 79 78,aa 80 0,aa 81 13,cO 82 (ixaS 1 (t 80) (t 81)),aP 83 82,cO 84 (ixaS 1 (t 72) (t 73)),aW 1 84 79,cO 85 (ixaS 1 (t 74) (t 75)),aW 1 85 83]).seq (ab [aa 86 13,aa 10 86,cO 11 (mov eN)] ret)) skip)).seq ((ops 1 [aa 87 0,aa 88 12,aa 89 0,aa 90 13,aa 91 0,aa 92 13,cO 93 (ixaS 1 (t 91) (t 92)),aP 94 93,aa 95 0,aa 96 12,cO 97 (ixaS 1 (t 95) (t 96)),aP 98 97,cO 99 (ixaS 1 (t 87) (t 88)),aW 1 99 94,cO 100 (ixaS 1 (t 89) (t 90)),aW 1 100 98]).seq (ab [aa 101 12,ao 102 .add 101 1,aa 12 102] (ab [aa 103 13,ao 104 .sub 103 1,aa 13 104] ((block 4 (block 5 ((block 6 (((mixS 1 [aa 105 12,aa 106 13,aF 107 .leq 105 106,aa 108 107,ah 109 108 (cM 4),ah 110 108 (cM 0),ah 111 108 (cM 12),ah 112 108 (ixaS 1 (t 110) (t 111)),ah 113 108 (cD 112),ah 114 108 (cM 0),ah 115 108 (cM 1),ah 116 108 (ixaS 1 (t 114) (t 115)),ah 117 108 (cD 116),ah 118 108 (call (t 109) [t 113,t 117]),ah 119 108 (cB .lss (t 118) (cN 0)),cO 120 (pick (t 108) (t 119) be)] [(0,0),(1,0),(2,0),(3,0),(4,0),(5,0),(6,0),(7,0),(8,0),(9,0),(10,0),(11,0),(12,0),(13,2),(14,0),(15,0)]).seq (az 120 skip (exit 6))).seq (block 7 (ops 0 [aa 121 12,ao 122 .add 121 1,aa 12 122]))).loop).seq ((block 8 (((mixS 1 [aa 123 12,aa 124 13,aF 125 .leq 123 124,aa 126 125,ah 127 126 (cM 4),ah 128 126 (cM 0),ah 129 126 (cM 13),ah 130 126 (ixaS 1 (t 128) (t 129)),ah 131 126 (cD 130),ah 132 126 (cM 0),ah 133 126 (cM 1),ah 134 126 (ixaS 1 (t 132) (t 133)),ah 135 126 (cD 134),ah 136 126 (call (t 127) [t 131,t 135]),ah 137 126 (cB .lss (t 136) (cN 0)),ah 138 126 (un UnOp.not (t 137)),cO 139 (pick (t 126) (t 138) be)] [(0,0),(1,0),(2,0),(3,0),(4,0),(5,0),(6,0),(7,0),(8,0),(9,0),(10,0),(11,0),(12,0),(13,2),(14,0),(15,0),(16,0)]).seq (az 139 skip (exit 8))).seq (block 9 (ops 0 [aa 140 13,ao 141 .sub 140 1,aa 13 141]))).loop).seq ((ab [aa 142 12,aa 143 13,aF 144 .gtr 142 143] (az 144 (exit 4) skip)).seq ((ops 1 [aa 145 0,aa 146 12,aa 147 0,aa 148 13,aa 149 0,aa 150 13,cO 151 (ixaS 1 (t 149) (t 150)),aP 152 151,aa 153 0,aa 154 12,cO 155 (ixaS 1 (t 153) (t 154)),aP 156 155,cO 157 (ixaS 1 (t 145) (t 146)),aW 1 157 152,cO 158 (ixaS 1 (t 147) (t 148)),aW 1 158 156]).seq (ab [aa 159 12,ao 160 .add 159 1,aa 12 160] (ops 0 [aa 161 13,ao 162 .sub 161 1,aa 13 162]))))))).loop).seq ((ops 1 [aa 163 0,aa 164 13,aa 165 0,aa 166 1,aa 167 0,aa 168 1,cO 169 (ixaS 1 (t 167) (t 168)),aP 170 169,aa 171 0,aa 172 13,cO 173 (ixaS 1 (t 171) (t 172)),aP 174 173,cO 175 (ixaS 1 (t 163) (t 164)),aW 1 175 170,cO 176 (ixaS 1 (t 165) (t 166)),aW 1 176 174]).seq (ab [aa 177 13,aa 10 177,cO 11 (mov be)] ret)))))))))))))
theorem zE:Is Try.prog 79 b79:=Is.mk' Try.func79 (by kernel_rfl)
def b80:F2:=(F2.mk 19 [RV.t 2] (ab [cO 2 (mov (cN 0))] ((ab [aa 3 0,cO 4 (cB .geq (t 3) (c (AV.int IntKind.u32 (65536))))] (az 4 (ab [aa 5 0,cO 6 (cB .shr (t 5) (c (AV.int IntKind.u64 (16)))),aa 0 6] (ops 0 [cO 2 (mov (cN 16))])) skip)).seq ((ab [aa 7 0,cO 8 (cB .geq (t 7) (c (AV.int IntKind.u32 (256))))] (az 8 (ab [aa 9 0,cO 10 (cB .shr (t 9) (c (AV.int IntKind.u64 (8)))),aa 0 10] (ops 0 [aa 11 2,ao 12 .add 11 8,aa 2 12])) skip)).seq (ab [aa 13 2,aa 14 0,cO 15 (conv IntKind.u8 (t 14)),cO 16 (ixStr (c (AV.str (ByteArray.mk (Array.mk [0,1,2,2,3,3,3,3,4,4,4,4,4,4,4,4,5,5,5,5,5,5,5,5,5,5,5,5,5,5,5,5,6,6,6,6,6,6,6,6,6,6,6,6,6,6,6,6,6,6,6,6,6,6,6,6,6,6,6,6,6,6,6,6,7,7,7,7,7,7,7,7,7,7,7,7,7,7,7,7,7,7,7,7,7,7,7,7,7,7,7,7,7,7,7,7,7,7,7,7,7,7,7,7,7,7,7,7,7,7,7,7,7,7,7,7,7,7,7,7,7,7,7,7,7,7,7,7,8,8,8,8,8,8,8,8,8,8,8,8,8,8,8,8,8,8,8,8,8,8,8,8,8,8,8,8,8,8,8,8,8,8,8,8,8,8,8,8,8,8,8,8,8,8,8,8,8,8,8,8,8,8,8,8,8,8,8,8,8,8,8,8,8,8,8,8,8,8,8,8,8,8,8,8,8,8,8,8,8,8,8,8,8,8,8,8,8,8,8,8,8,8,8,8,8,8,8,8,8,8,8,8,8,8,8,8,8,8,8,8,8,8,8,8,8,8,8,8,8,8,8,8,8,8,8,8])))) (t 15)),cO 17 (conv IntKind.i64 (t 16)),aF 18 .add 13 17,aa 2 18] ret)))))
theorem Bm:Is Try.prog 80 b80:=Is.mk' Try.func80 (by kernel_rfl)
def b81:F2:=(F2.mk 25 [RV.t 2] (ab [cO 2 (mov (cN 0))] ((ab [aa 3 0,cO 4 (cB .geq (t 3) (c (AV.int IntKind.u64 (4294967296))))] (az 4 (ab [aa 5 0,cO 6 (cB .shr (t 5) (c (AV.int IntKind.u64 (32)))),aa 0 6] (ops 0 [cO 2 (mov (cN 32))])) skip)).seq ((ab [aa 7 0,cO 8 (cB .geq (t 7) (c (AV.int IntKind.u64 (65536))))] (az 8 (ab [aa 9 0,cO 10 (cB .shr (t 9) (c (AV.int IntKind.u64 (16)))),aa 0 10] (ops 0 [aa 11 2,ao 12 .add 11 16,aa 2 12])) skip)).seq ((ab [aa 13 0,cO 14 (cB .geq (t 13) (c (AV.int IntKind.u64 (256))))] (az 14 (ab [aa 15 0,cO 16 (cB .shr (t 15) (c (AV.int IntKind.u64 (8)))),aa 0 16] (ops 0 [aa 17 2,ao 18 .add 17 8,aa 2 18])) skip)).seq (ab [aa 19 2,aa 20 0,cO 21 (conv IntKind.u8 (t 20)),cO 22 (ixStr (c (AV.str (ByteArray.mk (Array.mk [0,1,2,2,3,3,3,3,4,4,4,4,4,4,4,4,5,5,5,5,5,5,5,5,5,5,5,5,5,5,5,5,6,6,6,6,6,6,6,6,6,6,6,6,6,6,6,6,6,6,6,6,6,6,6,6,6,6,6,6,6,6,6,6,7,7,7,7,7,7,7,7,7,7,7,7,7,7,7,7,7,7,7,7,7,7,7,7,7,7,7,7,7,7,7,7,7,7,7,7,7,7,7,7,7,7,7,7,7,7,7,7,7,7,7,7,7,7,7,7,7,7,7,7,7,7,7,7,8,8,8,8,8,8,8,8,8,8,8,8,8,8,8,8,8,8,8,8,8,8,8,8,8,8,8,8,8,8,8,8,8,8,8,8,8,8,8,8,8,8,8,8,8,8,8,8,8,8,8,8,8,8,8,8,8,8,8,8,8,8,8,8,8,8,8,8,8,8,8,8,8,8,8,8,8,8,8,8,8,8,8,8,8,8,8,8,8,8,8,8,8,8,8,8,8,8,8,8,8,8,8,8,8,8,8,8,8,8,8,8,8,8,8,8,8,8,8,8,8,8,8,8,8,8,8,8])))) (t 21)),cO 23 (conv IntKind.i64 (t 22)),aF 24 .add 19 23,aa 2 24] ret))))))
theorem yw:Is Try.prog 81 b81:=Is.mk' Try.func81 (by kernel_rfl)
def b82:F2:=(F2.mk 19 [RV.t 4] (ab [cO 4 (mov (cN 0))] ((ab [aa 6 0,bq 7 6,cO 8 (mov (cN 0))] (block 0 (ab [aF 9 .lss 8 7] ((az 9 skip (exit 0)).seq ((block 1 (ab [aa 10 8,aa 5 10] (ab [aa 11 1,aa 12 0,aa 13 5,cO 14 (ixaS 1 (t 12) (t 13)),aP 15 14,cO 16 (call (t 11) [t 15])] (az 16 (ab [aa 17 5,aa 4 17] ret) skip)))).seq (ops 0 [ao 18 .add 8 1,aa 8 18])))).loop)).seq (ab [cO 4 (mov (cN ((-1))))] ret))))
theorem Aq:Is Try.prog 82 b82:=Is.mk' Try.func82 (by kernel_rfl)
def b83:F2:=(F2.mk 53 [] (ab [aa 10 1,ao 11 .add 10 1,aa 8 11] (block 0 ((ab [aa 12 8,aa 13 2,aF 14 .lss 12 13] (az 14 skip (exit 0))).seq ((block 1 (ab [aa 17 8,aa 9 17] (block 2 (((mixS 1 [aa 18 9,aa 19 1,aF 20 .gtr 18 19,aa 21 20,ah 22 21 (cM 3),ah 23 21 (cM 0),ah 24 21 (cM 9),ah 25 21 (ixaS 2 (t 23) (t 24)),ah 26 21 (ldn 2 (t 25)),ah 27 21 (cM 0),ah 28 21 (cM 9),ah 29 21 (cB .sub (t 28) (cN 1)),ah 30 21 (ixaS 2 (t 27) (t 29)),ah 31 21 (ldn 2 (t 30)),ah 32 21 (call (t 22) [t 26,t 31]),ah 33 21 (cB .lss (t 32) (cN 0)),cO 34 (pick (t 21) (t 33) be)] [(0,0),(1,0),(2,0),(3,0),(4,0),(5,0),(6,0),(7,0),(8,0),(9,0),(10,0),(11,0),(12,0),(13,0),(14,2),(15,0),(16,0)]).seq (az 34 skip (exit 2))).seq ((block 3 (ops 1 [aa 37 0,aa 38 9,aa 39 0,aa 40 9,ao 41 .sub 40 1,aa 42 0,aa 43 9,ao 44 .sub 43 1,cO 45 (ixaS 2 (t 42) (t 44)),aS 46 2 45,aa 47 0,aa 48 9,cO 49 (ixaS 2 (t 47) (t 48)),aS 50 2 49,cO 51 (ixaS 2 (t 37) (t 38)),aW 2 51 46,cO 52 (ixaS 2 (t 39) (t 41)),aW 2 52 50])).seq (ops 0 [aa 35 9,ao 36 .sub 35 1,aa 9 36]))).loop))).seq (ops 0 [aa 15 8,ao 16 .add 15 1,aa 8 16]))).loop)))
theorem y1:Is Try.prog 83 b83:=Is.mk' Try.func83 (by kernel_rfl)
def b84:F2:=(F2.mk 60 [] (ab [aa 13 1,aa 8 13] (ab [cO 9 (mov (cN 0))] (ab [aa 14 2,aa 15 1,aF 16 .sub 14 15,aa 10 16] ((ab [aa 17 10,ao 18 .sub 17 1,ao 19 .quo 18 2,aa 11 19] (block 0 ((ab [aa 20 11,ao 21 .geq 20 0] (az 21 skip (exit 0))).seq ((block 1 (ops 0 [aa 24 0,aa 25 11,aa 26 10,aa 27 8,aa 28 3,aN 29 97 [t 24,t 25,t 26,t 27,t 28]])).seq (ops 0 [aa 22 11,ao 23 .sub 22 1,aa 11 23]))).loop)).seq (ab [aa 30 10,ao 31 .sub 30 1,aa 12 31] (block 2 ((ab [aa 32 12,ao 33 .geq 32 0] (az 33 skip (exit 2))).seq ((block 3 ((ops 1 [aa 36 0,aa 37 8,aa 38 0,aa 39 8,aa 40 12,aF 41 .add 39 40,aa 42 0,aa 43 8,aa 44 12,aF 45 .add 43 44,cO 46 (ixaS 2 (t 42) (t 45)),aS 47 2 46,aa 48 0,aa 49 8,cO 50 (ixaS 2 (t 48) (t 49)),aS 51 2 50,cO 52 (ixaS 2 (t 36) (t 37)),aW 2 52 47,cO 53 (ixaS 2 (t 38) (t 41)),aW 2 53 51]).seq (ops 0 [aa 54 0,aa 55 9,aa 56 12,aa 57 8,aa 58 3,aN 59 97 [t 54,t 55,t 56,t 57,t 58]]))).seq (ops 0 [aa 34 12,ao 35 .sub 34 1,aa 12 35]))).loop)))))))
theorem zY:Is Try.prog 84 b84:=Is.mk' Try.func84 (by kernel_rfl)
def b85:F2:=(F2.mk 67 [] (ab [aa 13 2,aa 14 1,aF 15 .sub 13 14,aa 8 15] (ab [aa 16 8,ao 17 .geq 16 8] (az 17 (ab [aa 18 8,cO 19 (conv IntKind.u64 (t 18)),cO 9 (alloc (AV.int IntKind.u64 (0))),aW 1 9 19] (ab [aa 20 8,aN 21 93 [t 20],aa 10 21] (ab [aa 22 1,aa 23 8,ao 24 .quo 23 4,ao 25 .mul 24 2,aF 26 .add 22 25,ao 27 .sub 26 1,aa 11 27] (block 0 ((ab [aa 28 11,aa 29 1,aa 30 8,ao 31 .quo 30 4,ao 32 .mul 31 2,aF 33 .add 29 32,ao 34 .add 33 1,aF 35 .leq 28 34] (az 35 skip (exit 0))).seq ((block 1 (ab [aN 38 94 [t 9],aa 39 10,cO 40 (cB .sub (t 39) (c (AV.int IntKind.u64 (1)))),aF 41 .and 38 40,cO 42 (conv IntKind.i64 (t 41)),aa 12 42] ((ab [aa 43 12,aa 44 8,aF 45 .geq 43 44] (az 45 (ops 0 [aa 46 12,aa 47 8,aF 48 .sub 46 47,aa 12 48]) skip)).seq (ops 1 [aa 49 0,aa 50 11,aa 51 0,aa 52 1,aa 53 12,aF 54 .add 52 53,aa 55 0,aa 56 1,aa 57 12,aF 58 .add 56 57,cO 59 (ixaS 2 (t 55) (t 58)),aS 60 2 59,aa 61 0,aa 62 11,cO 63 (ixaS 2 (t 61) (t 62)),aS 64 2 63,cO 65 (ixaS 2 (t 49) (t 50)),aW 2 65 60,cO 66 (ixaS 2 (t 51) (t 54)),aW 2 66 64])))).seq (ops 0 [aa 36 11,ao 37 .add 36 1,aa 11 37]))).loop)))) skip))))
theorem AR:Is Try.prog 85 b85:=Is.mk' Try.func85 (by kernel_rfl)
def b86:F2:=(F2.mk 63 [RV.t 8,RV.t 9] (ab [cO 8 (mov (cN 0)),cO 9 (mov (cN 0))] (ab [aa 15 2,aa 16 1,aF 17 .sub 15 16,aa 10 17] (ab [cO 11 (alloc (bE))] (ab [aa 18 1,aa 19 10,ao 20 .quo 19 4,ao 21 .mul 20 1,aF 22 .add 18 21,aa 12 22] (ab [aa 23 1,aa 24 10,ao 25 .quo 24 4,ao 26 .mul 25 2,aF 27 .add 23 26,aa 13 27] (ab [aa 28 1,aa 29 10,ao 30 .quo 29 4,ao 31 .mul 30 3,aF 32 .add 28 31,aa 14 32] ((ab [aa 33 10,ao 34 .geq 33 8] (az 34 ((ab [aa 35 10,ao 36 .geq 35 50] (az 36 (ab [aa 37 0,aa 38 12,aa 39 3,aN 40 98 [t 37,t 38,t 11,t 39],aa 12 40] (ab [aa 41 0,aa 42 13,aa 43 3,aN 44 98 [t 41,t 42,t 11,t 43],aa 13 44] (ops 0 [aa 45 0,aa 46 14,aa 47 3,aN 48 98 [t 45,t 46,t 11,t 47],aa 14 48]))) skip)).seq (ops 0 [aa 49 0,aa 50 12,aa 51 13,aa 52 14,aa 53 3,aN 54 99 [t 49,t 50,t 51,t 52,t 11,t 53],aa 13 54])) skip)).seq (ab [aP 55 11] (block 0 (ab [ao 58 .eql 55 0,aa 57 58] (az 57 (ab [aa 59 13,aa 8 59,cO 9 (mov (cN 1))] ret) (ab [ao 61 .eql 55 12,aa 60 61] (az 60 (ab [aa 62 13,aa 8 62,cO 9 (mov (cN 2))] ret) (ab [aa 56 13,aa 8 56,cO 9 (mov (cN 0))] ret)))))))))))))))
theorem zR:Is Try.prog 86 b86:=Is.mk' Try.func86 (by kernel_rfl)
def b87:F2:=(F2.mk 34 [] (ab [aa 10 1,aa 8 10] (ab [aa 11 2,ao 12 .sub 11 1,aa 9 12] (block 0 ((ab [aa 13 8,aa 14 9,aF 15 .lss 13 14] (az 15 skip (exit 0))).seq (block 1 ((ops 1 [aa 16 0,aa 17 8,aa 18 0,aa 19 9,aa 20 0,aa 21 9,cO 22 (ixaS 2 (t 20) (t 21)),aS 23 2 22,aa 24 0,aa 25 8,cO 26 (ixaS 2 (t 24) (t 25)),aS 27 2 26,cO 28 (ixaS 2 (t 16) (t 17)),aW 2 28 23,cO 29 (ixaS 2 (t 18) (t 19)),aW 2 29 27]).seq (ab [aa 30 8,ao 31 .add 30 1,aa 8 31] (ops 0 [aa 32 9,ao 33 .sub 32 1,aa 9 33]))))).loop))))
theorem Ah:Is Try.prog 87 b87:=Is.mk' Try.func87 (by kernel_rfl)
def b88:F2:=(F2.mk 141 [RV.t 8] (ab [cO 8 (mov be)] (ab [aa 13 1,ao 14 .add 13 1,aa 9 14] ((ab [cO 10 (mov (cN 0))] (block 0 ((ab [aa 15 10,ao 16 .lss 15 5] (az 16 skip (exit 0))).seq ((block 1 ((block 2 (((mixS 1 [aa 19 9,aa 20 2,aF 21 .lss 19 20,aa 22 21,ah 23 22 (cM 3),ah 24 22 (cM 0),ah 25 22 (cM 9),ah 26 22 (ixaS 2 (t 24) (t 25)),ah 27 22 (ldn 2 (t 26)),ah 28 22 (cM 0),ah 29 22 (cM 9),ah 30 22 (cB .sub (t 29) (cN 1)),ah 31 22 (ixaS 2 (t 28) (t 30)),ah 32 22 (ldn 2 (t 31)),ah 33 22 (call (t 23) [t 27,t 32]),ah 34 22 (cB .lss (t 33) (cN 0)),ah 35 22 (un UnOp.not (t 34)),cO 36 (pick (t 22) (t 35) be)] [(0,0),(1,0),(2,0),(3,0),(4,0),(5,0),(6,0),(7,0),(8,0),(9,0),(10,0),(11,0),(12,0),(13,0),(14,2),(15,0),(16,0),(17,0)]).seq (az 36 skip (exit 2))).seq (block 3 (ops 0 [aa 37 9,ao 38 .add 37 1,aa 9 38]))).loop).seq ((ab [aa 39 9,aa 40 2,aF 41 .eql 39 40] (az 41 (ab [cO 8 (mov eN)] ret) skip)).seq ((ab [aa 42 2,aa 43 1,aF 44 .sub 42 43,ao 45 .lss 44 50] (az 45 (ab [cO 8 (mov be)] ret) skip)).seq ((ops 1 [aa 46 0,aa 47 9,aa 48 0,aa 49 9,ao 50 .sub 49 1,aa 51 0,aa 52 9,ao 53 .sub 52 1,cO 54 (ixaS 2 (t 51) (t 53)),aS 55 2 54,aa 56 0,aa 57 9,cO 58 (ixaS 2 (t 56) (t 57)),aS 59 2 58,cO 60 (ixaS 2 (t 46) (t 47)),aW 2 60 55,cO 61 (ixaS 2 (t 48) (t 50)),aW 2 61 59]).seq ((ab [aa 62 9,aa 63 1,aF 64 .sub 62 63,ao 65 .geq 64 2] (az 65 (ab [aa 66 9,ao 67 .sub 66 1,aa 11 67] (block 4 ((ab [aa 68 11,ao 69 .geq 68 1] (az 69 skip (exit 4))).seq ((block 5 (((mixS 1 [aa 72 3,aa 73 0,aa 74 11,cO 75 (ixaS 2 (t 73) (t 74)),aS 76 2 75,aa 77 0,aa 78 11,ao 79 .sub 78 1,cO 80 (ixaS 2 (t 77) (t 79)),aS 81 2 80,cO 82 (call (t 72) [t 76,t 81]),ao 83 .lss 82 0,cO 84 (un UnOp.not (t 83))] [(0,0),(1,0),(2,0),(3,0),(4,0),(5,0),(6,0),(7,0),(8,0),(9,0),(10,2),(11,0),(12,0)]).seq (az 84 (exit 4) skip)).seq (ops 1 [aa 85 0,aa 86 11,aa 87 0,aa 88 11,ao 89 .sub 88 1,aa 90 0,aa 91 11,ao 92 .sub 91 1,cO 93 (ixaS 2 (t 90) (t 92)),aS 94 2 93,aa 95 0,aa 96 11,cO 97 (ixaS 2 (t 95) (t 96)),aS 98 2 97,cO 99 (ixaS 2 (t 85) (t 86)),aW 2 99 94,cO 100 (ixaS 2 (t 87) (t 89)),aW 2 100 98]))).seq (ops 0 [aa 70 11,ao 71 .sub 70 1,aa 11 71]))).loop)) skip)).seq (ab [aa 101 2,aa 102 9,aF 103 .sub 101 102,ao 104 .geq 103 2] (az 104 (ab [aa 105 9,ao 106 .add 105 1,aa 12 106] (block 6 ((ab [aa 107 12,aa 108 2,aF 109 .lss 107 108] (az 109 skip (exit 6))).seq ((block 7 (((mixS 1 [aa 112 3,aa 113 0,aa 114 12,cO 115 (ixaS 2 (t 113) (t 114)),aS 116 2 115,aa 117 0,aa 118 12,ao 119 .sub 118 1,cO 120 (ixaS 2 (t 117) (t 119)),aS 121 2 120,cO 122 (call (t 112) [t 116,t 121]),ao 123 .lss 122 0,cO 124 (un UnOp.not (t 123))] [(0,0),(1,0),(2,0),(3,0),(4,0),(5,0),(6,0),(7,0),(8,0),(9,0),(10,2),(11,0),(12,0)]).seq (az 124 (exit 6) skip)).seq (ops 1 [aa 125 0,aa 126 12,aa 127 0,aa 128 12,ao 129 .sub 128 1,aa 130 0,aa 131 12,ao 132 .sub 131 1,cO 133 (ixaS 2 (t 130) (t 132)),aS 134 2 133,aa 135 0,aa 136 12,cO 137 (ixaS 2 (t 135) (t 136)),aS 138 2 137,cO 139 (ixaS 2 (t 125) (t 126)),aW 2 139 134,cO 140 (ixaS 2 (t 127) (t 129)),aW 2 140 138]))).seq (ops 0 [aa 110 12,ao 111 .add 110 1,aa 12 111]))).loop)) skip)))))))).seq (ops 0 [aa 17 10,ao 18 .add 17 1,aa 10 18]))).loop)).seq (ab [cO 8 (mov be)] ret)))))
theorem zD:Is Try.prog 88 b88:=Is.mk' Try.func88 (by kernel_rfl)
def b89:F2:=(F2.mk 90 [RV.t 10] (ab [cO 10 (mov (cN 0))] ((ops 1 [aa 13 0,aa 14 1,aa 15 0,aa 16 3,aa 17 0,aa 18 3,cO 19 (ixaS 2 (t 17) (t 18)),aS 20 2 19,aa 21 0,aa 22 1,cO 23 (ixaS 2 (t 21) (t 22)),aS 24 2 23,cO 25 (ixaS 2 (t 13) (t 14)),aW 2 25 20,cO 26 (ixaS 2 (t 15) (t 16)),aW 2 26 24]).seq (ab [aa 27 1,ao 28 .add 27 1,aa 29 2,ao 30 .sub 29 1,aa 11 28,aa 12 30] ((block 0 (block 1 ((block 2 (((mixS 1 [aa 31 11,aa 32 12,aF 33 .leq 31 32,aa 34 33,ah 35 34 (cM 4),ah 36 34 (cM 0),ah 37 34 (cM 1),ah 38 34 (ixaS 2 (t 36) (t 37)),ah 39 34 (ldn 2 (t 38)),ah 40 34 (cM 0),ah 41 34 (cM 11),ah 42 34 (ixaS 2 (t 40) (t 41)),ah 43 34 (ldn 2 (t 42)),ah 44 34 (call (t 35) [t 39,t 43]),ah 45 34 (cB .lss (t 44) (cN 0)),ah 46 34 (un UnOp.not (t 45)),cO 47 (pick (t 34) (t 46) be)] [(0,0),(1,0),(2,0),(3,0),(4,0),(5,0),(6,0),(7,0),(8,0),(9,0),(10,0),(11,0),(12,0),(13,2),(14,0),(15,0),(16,0)]).seq (az 47 skip (exit 2))).seq (block 3 (ops 0 [aa 48 11,ao 49 .add 48 1,aa 11 49]))).loop).seq ((block 4 (((mixS 1 [aa 50 11,aa 51 12,aF 52 .leq 50 51,aa 53 52,ah 54 53 (cM 4),ah 55 53 (cM 0),ah 56 53 (cM 1),ah 57 53 (ixaS 2 (t 55) (t 56)),ah 58 53 (ldn 2 (t 57)),ah 59 53 (cM 0),ah 60 53 (cM 12),ah 61 53 (ixaS 2 (t 59) (t 60)),ah 62 53 (ldn 2 (t 61)),ah 63 53 (call (t 54) [t 58,t 62]),ah 64 53 (cB .lss (t 63) (cN 0)),cO 65 (pick (t 53) (t 64) be)] [(0,0),(1,0),(2,0),(3,0),(4,0),(5,0),(6,0),(7,0),(8,0),(9,0),(10,0),(11,0),(12,0),(13,2),(14,0),(15,0)]).seq (az 65 skip (exit 4))).seq (block 5 (ops 0 [aa 66 12,ao 67 .sub 66 1,aa 12 67]))).loop).seq ((ab [aa 68 11,aa 69 12,aF 70 .gtr 68 69] (az 70 (exit 0) skip)).seq ((ops 1 [aa 71 0,aa 72 11,aa 73 0,aa 74 12,aa 75 0,aa 76 12,cO 77 (ixaS 2 (t 75) (t 76)),aS 78 2 77,aa 79 0,aa 80 11,cO 81 (ixaS 2 (t 79) (t 80)),aS 82 2 81,cO 83 (ixaS 2 (t 71) (t 72)),aW 2 83 78,cO 84 (ixaS 2 (t 73) (t 74)),aW 2 84 82]).seq (ab [aa 85 11,ao 86 .add 85 1,aa 11 86] (ops 0 [aa 87 12,ao 88 .sub 87 1,aa 12 88]))))))).loop).seq (ab [aa 89 11,aa 10 89] ret))))))
theorem Ai:Is Try.prog 89 b89:=Is.mk' Try.func89 (by kernel_rfl)
def b90:F2:=(F2.mk 178 [RV.t 10,RV.t 11] (ab [cO 10 (mov (cN 0)),cO 11 (mov be)] ((ops 1 [aa 14 0,aa 15 1,aa 16 0,aa 17 3,aa 18 0,aa 19 3,cO 20 (ixaS 2 (t 18) (t 19)),aS 21 2 20,aa 22 0,aa 23 1,cO 24 (ixaS 2 (t 22) (t 23)),aS 25 2 24,cO 26 (ixaS 2 (t 14) (t 15)),aW 2 26 21,cO 27 (ixaS 2 (t 16) (t 17)),aW 2 27 25]).seq (ab [aa 28 1,ao 29 .add 28 1,aa 30 2,ao 31 .sub 30 1,aa 12 29,aa 13 31] ((block 0 (((mixS 1 [aa 32 12,aa 33 13,aF 34 .leq 32 33,aa 35 34,ah 36 35 (cM 4),ah 37 35 (cM 0),ah 38 35 (cM 12),ah 39 35 (ixaS 2 (t 37) (t 38)),ah 40 35 (ldn 2 (t 39)),ah 41 35 (cM 0),ah 42 35 (cM 1),ah 43 35 (ixaS 2 (t 41) (t 42)),ah 44 35 (ldn 2 (t 43)),ah 45 35 (call (t 36) [t 40,t 44]),ah 46 35 (cB .lss (t 45) (cN 0)),cO 47 (pick (t 35) (t 46) be)] [(0,0),(1,0),(2,0),(3,0),(4,0),(5,0),(6,0),(7,0),(8,0),(9,0),(10,0),(11,0),(12,0),(13,2),(14,0),(15,0)]).seq (az 47 skip (exit 0))).seq (block 1 (ops 0 [aa 48 12,ao 49 .add 48 1,aa 12 49]))).loop).seq ((block 2 (((mixS 1 [aa 50 12,aa 51 13,aF 52 .leq 50 51,aa 53 52,ah 54 53 (cM 4),ah 55 53 (cM 0),ah 56 53 (cM 13),ah 57 53 (ixaS 2 (t 55) (t 56)),ah 58 53 (ldn 2 (t 57)),ah 59 53 (cM 0),ah 60 53 (cM 1),ah 61 53 (ixaS 2 (t 59) (t 60)),ah 62 53 (ldn 2 (t 61)),ah 63 53 (call (t 54) [t 58,t 62]),ah 64 53 (cB .lss (t 63) (cN 0)),ah 65 53 (un UnOp.not (t 64)),cO 66 (pick (t 53) (t 65) be)] [(0,0),(1,0),(2,0),(3,0),(4,0),(5,0),(6,0),(7,0),(8,0),(9,0),(10,0),(11,0),(12,0),(13,2),(14,0),(15,0),(16,0)]).seq (az 66 skip (exit 2))).seq (block 3 (ops 0 [aa 67 13,ao 68 .sub 67 1,aa 13 68]))).loop).seq ((ab [aa 69 12,aa 70 13,aF 71 .gtr 69 70] (az 71 ((ops 1 [aa 72 0,aa 73 13,aa 74 0,aa 75 1,aa 76 0,aa 77 1,cO 78 (ixaS 2 (t 76) (t 77)),aS 79 2 78,aa 80 0,aa 81 13,cO 82 (ixaS 2 (t 80) (t 81)),aS 83 2 82,cO 84 (ixaS 2 (t 72) (t 73)),aW 2 84 79,cO 85 (ixaS 2 (t 74) (t 75)),aW 2 85 83]).seq (ab [aa 86 13,aa 10 86,cO 11 (mov eN)] ret)) skip)).seq ((ops 1 [aa 87 0,aa 88 12,aa 89 0,aa 90 13,aa 91 0,aa 92 13,cO 93 (ixaS 2 (t 91) (t 92)),aS 94 2 93,aa 95 0,aa 96 12,cO 97 (ixaS 2 (t 95) (t 96)),aS 98 2 97,cO 99 (ixaS 2 (t 87) (t 88)),aW 2 99 94,cO 100 (ixaS 2 (t 89) (t 90)),aW 2 100 98]).seq (ab [aa 101 12,ao 102 .add 101 1,aa 12 102] (ab [aa 103 13,ao 104 .sub 103 1,aa 13 104] ((block 4 (block 5 ((block 6 (((mixS 1 [aa 105 12,aa 106 13,aF 107 .leq 105 106,aa 108 107,ah 109 108 (cM 4),ah 110 108 (cM 0),ah 111 108 (cM 12),ah 112 108 (ixaS 2 (t 110) (t 111)),ah 113 108 (ldn 2 (t 112)),ah 114 108 (cM 0),ah 115 108 (cM 1),ah 116 108 (ixaS 2 (t 114) (t 115)),ah 117 108 (ldn 2 (t 116)),ah 118 108 (call (t 109) [t 113,t 117]),ah 119 108 (cB .lss (t 118) (cN 0)),cO 120 (pick (t 108) (t 119) be)] [(0,0),(1,0),(2,0),(3,0),(4,0),(5,0),(6,0),(7,0),(8,0),(9,0),(10,0),(11,0),(12,0),(13,2),(14,0),(15,0)]).seq (az 120 skip (exit 6))).seq (block 7 (ops 0 [aa 121 12,ao 122 .add 121 1,aa 12 122]))).loop).seq ((block 8 (((mixS 1 [aa 123 12,aa 124 13,aF 125 .leq 123 124,aa 126 125,ah 127 126 (cM 4),ah 128 126 (cM 0),ah 129 126 (cM 13),ah 130 126 (ixaS 2 (t 128) (t 129)),ah 131 126 (ldn 2 (t 130)),ah 132 126 (cM 0),ah 133 126 (cM 1),ah 134 126 (ixaS 2 (t 132) (t 133)),ah 135 126 (ldn 2 (t 134)),ah 136 126 (call (t 127) [t 131,t 135]),ah 137 126 (cB .lss (t 136) (cN 0)),ah 138 126 (un UnOp.not (t 137)),cO 139 (pick (t 126) (t 138) be)] [(0,0),(1,0),(2,0),(3,0),(4,0),(5,0),(6,0),(7,0),(8,0),(9,0),(10,0),(11,0),(12,0),(13,2),(14,0),(15,0),(16,0)]).seq (az 139 skip (exit 8))).seq (block 9 (ops 0 [aa 140 13,ao 141 .sub 140 1,aa 13 141]))).loop).seq ((ab [aa 142 12,aa 143 13,aF 144 .gtr 142 143] (az 144 (exit 4) skip)).seq ((ops 1 [aa 145 0,aa 146 12,aa 147 0,aa 148 13,aa 149 0,aa 150 13,cO 151 (ixaS 2 (t 149) (t 150)),aS 152 2 151,aa 153 0,aa 154 12,cO 155 (ixaS 2 (t 153) (t 154)),aS 156 2 155,cO 157 (ixaS 2 (t 145) (t 146)),aW 2 157 152,cO 158 (ixaS 2 (t 147) (t 148)),aW 2 158 156]).seq (ab [aa 159 12,ao 160 .add 159 1,aa 12 160] (ops 0 [aa 161 13,ao 162 .sub 161 1,aa 13 162]))))))).loop).seq ((ops 1 [aa 163 0,aa 164 13,aa 165 0,aa 166 1,aa 167 0,aa 168 1,cO 169 (ixaS 2 (t 167) (t 168)),aS 170 2 169,aa 171 0,aa 172 13,cO 173 (ixaS 2 (t 171) (t 172)),aS 174 2 173,cO 175 (ixaS 2 (t 163) (t 164)),aW 2 175 170,cO 176 (ixaS 2 (t 165) (t 166)),aW 2 176 174]).seq (ab [aa 177 13,aa 10 177,cO 11 (mov be)] ret)))))))))))))
theorem Av:Is Try.prog 90 b90:=Is.mk' Try.func90 (by kernel_rfl)
def b91:F2:=(F2.mk 6 [RV.t 2] (ab [cO 2 (mov be)] (ab [aa 3 0,aa 4 0,aF 5 .neq 3 4,aa 2 5] ret)))
theorem Aw:Is Try.prog 91 b91:=Is.mk' Try.func91 (by kernel_rfl)
def b92:F2:=(F2.mk 82 [] (ab [aa 12 1,aa 10 12] (block 0 (block 1 (ab [aa 13 10,cO 14 (cB .mul (cN 2) (t 13)),ao 15 .add 14 1,aa 11 15] ((ab [aa 16 11,aa 17 2,aF 18 .geq 16 17] (az 18 (exit 0) skip)).seq (((mixS 1 [aa 19 11,ao 20 .add 19 1,aa 21 2,aF 22 .lss 20 21,aa 23 22,ah 24 23 (cM 4),ah 25 23 (cM 0),ah 26 23 (cM 3),ah 27 23 (cM 11),ah 28 23 (cB .add (t 26) (t 27)),ah 29 23 (ixaS 1 (t 25) (t 28)),ah 30 23 (cD 29),ah 31 23 (cM 0),ah 32 23 (cM 3),ah 33 23 (cM 11),ah 34 23 (cB .add (t 32) (t 33)),ah 35 23 (cB .add (t 34) (cN 1)),ah 36 23 (ixaS 1 (t 31) (t 35)),ah 37 23 (cD 36),ah 38 23 (call (t 24) [t 30,t 37]),ah 39 23 (cB .lss (t 38) (cN 0)),cO 40 (pick (t 23) (t 39) be)] [(0,0),(1,0),(2,0),(3,0),(4,0),(5,0),(6,0),(7,0),(8,0),(9,0),(10,0),(11,0),(12,0),(13,0),(14,0),(15,0),(16,0),(17,0),(18,0),(19,2),(20,0),(21,0)]).seq (az 40 (ops 0 [aa 41 11,ao 42 .add 41 1,aa 11 42]) skip)).seq (((mixS 1 [aa 43 4,aa 44 0,aa 45 3,aa 46 10,aF 47 .add 45 46,cO 48 (ixaS 1 (t 44) (t 47)),aP 49 48,aa 50 0,aa 51 3,aa 52 11,aF 53 .add 51 52,cO 54 (ixaS 1 (t 50) (t 53)),aP 55 54,cO 56 (call (t 43) [t 49,t 55]),ao 57 .lss 56 0,cO 58 (un UnOp.not (t 57))] [(0,0),(1,0),(2,0),(3,0),(4,0),(5,0),(6,0),(7,0),(8,0),(9,0),(10,0),(11,0),(12,0),(13,2),(14,0),(15,0)]).seq (az 58 ret skip)).seq ((ops 1 [aa 59 0,aa 60 3,aa 61 10,aF 62 .add 60 61,aa 63 0,aa 64 3,aa 65 11,aF 66 .add 64 65,aa 67 0,aa 68 3,aa 69 11,aF 70 .add 68 69,cO 71 (ixaS 1 (t 67) (t 70)),aP 72 71,aa 73 0,aa 74 3,aa 75 10,aF 76 .add 74 75,cO 77 (ixaS 1 (t 73) (t 76)),aP 78 77,cO 79 (ixaS 1 (t 59) (t 62)),aW 1 79 72,cO 80 (ixaS 1 (t 63) (t 66)),aW 1 80 78]).seq (ops 0 [aa 81 11,aa 10 81]))))))).loop)))
theorem Az:Is Try.prog 92 b92:=Is.mk' Try.func92 (by kernel_rfl)
def b93:F2:=(F2.mk 7 [RV.t 2] (ab [cO 2 (mov (c (AV.int IntKind.u64 (0))))] (ab [aa 3 0,cO 4 (conv IntKind.u64 (t 3)),aN 5 62 [t 4],cO 6 (cB .shl (c (AV.int IntKind.u64 (1))) (t 5)),aa 2 6] ret)))
theorem AA:Is Try.prog 93 b93:=Is.mk' Try.func93 (by kernel_rfl)
def b94:F2:=(F2.mk 33 [RV.t 2] (ab [cO 2 (mov (c (AV.int IntKind.u64 (0))))] ((ops 1 [aa 3 0,cO 4 (nilck (t 3)),aP 5 4,aa 6 0,cO 7 (nilck (t 6)),aP 8 7,cO 9 (cB .shl (t 8) (c (AV.int IntKind.u64 (13)))),aF 10 .xor 5 9,cO 11 (nilck (t 3)),aW 1 11 10]).seq ((ops 1 [aa 12 0,cO 13 (nilck (t 12)),aP 14 13,aa 15 0,cO 16 (nilck (t 15)),aP 17 16,cO 18 (cB .shr (t 17) (c (AV.int IntKind.u64 (7)))),aF 19 .xor 14 18,cO 20 (nilck (t 12)),aW 1 20 19]).seq ((ops 1 [aa 21 0,cO 22 (nilck (t 21)),aP 23 22,aa 24 0,cO 25 (nilck (t 24)),aP 26 25,cO 27 (cB .shl (t 26) (c (AV.int IntKind.u64 (17)))),aF 28 .xor 23 27,cO 29 (nilck (t 21)),aW 1 29 28]).seq (ab [aa 30 0,cO 31 (nilck (t 30)),aP 32 31,aa 2 32] ret))))))
theorem zK:Is Try.prog 94 b94:=Is.mk' Try.func94 (by kernel_rfl)
def b95:F2:=(F2.mk 18 [RV.t 8] (ab [cO 8 (mov (cN 0))] (ab [aa 9 0,aa 10 1,ao 11 .sub 10 1,aa 12 1,aa 13 1,ao 14 .add 13 1,aa 15 2,aa 16 3,aN 17 96 [t 9,t 11,t 12,t 14,t 15,t 16],aa 8 17] ret)))
theorem AL:Is Try.prog 95 b95:=Is.mk' Try.func95 (by kernel_rfl)
def b96:F2:=(F2.mk 41 [RV.t 12] (ab [cO 12 (mov (cN 0))] (ab [aa 14 0,aa 15 1,aa 16 2,aa 17 4,aa 18 5,aN 19 100 [t 14,t 15,t 16,t 17,t 18],aa 13 19,cf 20 13 0,cf 21 13 1,aa 1 20,aa 2 21] (ab [aa 23 0,aa 24 2,aa 25 3,aa 26 4,aa 27 5,aN 28 100 [t 23,t 24,t 25,t 26,t 27],aa 22 28,cf 29 22 0,cf 30 22 1,aa 2 29,aa 3 30] (ab [aa 32 0,aa 33 1,aa 34 2,aa 35 4,aa 36 5,aN 37 100 [t 32,t 33,t 34,t 35,t 36],aa 31 37,cf 38 31 0,cf 39 31 1,aa 1 38,aa 2 39] (ab [aa 40 2,aa 12 40] ret))))))
theorem Ao:Is Try.prog 96 b96:=Is.mk' Try.func96 (by kernel_rfl)
def b97:F2:=(F2.mk 82 [] (ab [aa 12 1,aa 10 12] (block 0 (block 1 (ab [aa 13 10,cO 14 (cB .mul (cN 2) (t 13)),ao 15 .add 14 1,aa 11 15] ((ab [aa 16 11,aa 17 2,aF 18 .geq 16 17] (az 18 (exit 0) skip)).seq (((mixS 1 [aa 19 11,ao 20 .add 19 1,aa 21 2,aF 22 .lss 20 21,aa 23 22,ah 24 23 (cM 4),ah 25 23 (cM 0),ah 26 23 (cM 3),ah 27 23 (cM 11),ah 28 23 (cB .add (t 26) (t 27)),ah 29 23 (ixaS 2 (t 25) (t 28)),ah 30 23 (ldn 2 (t 29)),ah 31 23 (cM 0),ah 32 23 (cM 3),ah 33 23 (cM 11),ah 34 23 (cB .add (t 32) (t 33)),ah 35 23 (cB .add (t 34) (cN 1)),ah 36 23 (ixaS 2 (t 31) (t 35)),ah 37 23 (ldn 2 (t 36)),ah 38 23 (call (t 24) [t 30,t 37]),ah 39 23 (cB .lss (t 38) (cN 0)),cO 40 (pick (t 23) (t 39) be)] [(0,0),(1,0),(2,0),(3,0),(4,0),(5,0),(6,0),(7,0),(8,0),(9,0),(10,0),(11,0),(12,0),(13,0),(14,0),(15,0),(16,0),(17,0),(18,0),(19,2),(20,0),(21,0)]).seq (az 40 (ops 0 [aa 41 11,ao 42 .add 41 1,aa 11 42]) skip)).seq (((mixS 1 [aa 43 4,aa 44 0,aa 45 3,aa 46 10,aF 47 .add 45 46,cO 48 (ixaS 2 (t 44) (t 47)),aS 49 2 48,aa 50 0,aa 51 3,aa 52 11,aF 53 .add 51 52,cO 54 (ixaS 2 (t 50) (t 53)),aS 55 2 54,cO 56 (call (t 43) [t 49,t 55]),ao 57 .lss 56 0,cO 58 (un UnOp.not (t 57))] [(0,0),(1,0),(2,0),(3,0),(4,0),(5,0),(6,0),(7,0),(8,0),(9,0),(10,0),(11,0),(12,0),(13,2),(14,0),(15,0)]).seq (az 58 ret skip)).seq ((ops 1 [aa 59 0,aa 60 3,aa 61 10,aF 62 .add 60 61,aa 63 0,aa 64 3,aa 65 11,aF 66 .add 64 65,aa 67 0,aa 68 3,aa 69 11,aF 70 .add 68 69,cO 71 (ixaS 2 (t 67) (t 70)),aS 72 2 71,aa 73 0,aa 74 3,aa 75 10,aF 76 .add 74 75,cO 77 (ixaS 2 (t 73) (t 76)),aS 78 2 77,cO 79 (ixaS 2 (t 59) (t 62)),aW 2 79 72,cO 80 (ixaS 2 (t 63) (t 66)),aW 2 80 78]).seq (ops 0 [aa 81 11,aa 10 81]))))))).loop)))
theorem Ab:Is Try.prog 97 b97:=Is.mk' Try.func97 (by kernel_rfl)
def b98:F2:=(F2.mk 18 [RV.t 8] (ab [cO 8 (mov (cN 0))] (ab [aa 9 0,aa 10 1,ao 11 .sub 10 1,aa 12 1,aa 13 1,ao 14 .add 13 1,aa 15 2,aa 16 3,aN 17 99 [t 9,t 11,t 12,t 14,t 15,t 16],aa 8 17] ret)))
theorem AK:Is Try.prog 98 b98:=Is.mk' Try.func98 (by kernel_rfl)
def b99:F2:=(F2.mk 41 [RV.t 12] (ab [cO 12 (mov (cN 0))] (ab [aa 14 0,aa 15 1,aa 16 2,aa 17 4,aa 18 5,aN 19 101 [t 14,t 15,t 16,t 17,t 18],aa 13 19,cf 20 13 0,cf 21 13 1,aa 1 20,aa 2 21] (ab [aa 23 0,aa 24 2,aa 25 3,aa 26 4,aa 27 5,aN 28 101 [t 23,t 24,t 25,t 26,t 27],aa 22 28,cf 29 22 0,cf 30 22 1,aa 2 29,aa 3 30] (ab [aa 32 0,aa 33 1,aa 34 2,aa 35 4,aa 36 5,aN 37 101 [t 32,t 33,t 34,t 35,t 36],aa 31 37,cf 38 31 0,cf 39 31 1,aa 1 38,aa 2 39] (ab [aa 40 2,aa 12 40] ret))))))
theorem zN:Is Try.prog 99 b99:=Is.mk' Try.func99 (by kernel_rfl)
def yN:F2:=(F2.mk 32 [RV.t 10,RV.t 11] (ab [cO 10 (mov (cN 0)),cO 11 (mov (cN 0))] (((mixS 1 [aa 12 4,aa 13 0,aa 14 2,cO 15 (ixaS 1 (t 13) (t 14)),aP 16 15,aa 17 0,aa 18 1,cO 19 (ixaS 1 (t 17) (t 18)),aP 20 19,cO 21 (call (t 12) [t 16,t 20]),ao 22 .lss 21 0] [(0,0),(1,0),(2,0),(3,0),(4,0),(5,0),(6,0),(7,0),(8,0),(9,2),(10,0)]).seq (az 22 (ab [aa 23 3,cO 24 (nilck (t 23)),aP 25 24,ao 26 .add 25 1,cO 27 (nilck (t 23)),aW 1 27 26] (ab [aa 28 2,aa 29 1,aa 10 28,aa 11 29] ret)) skip)).seq (ab [aa 30 1,aa 31 2,aa 10 30,aa 11 31] ret))))
theorem yb:Is Try.prog 100 yN:=Is.mk' Try.func100 (by kernel_rfl)
def yV:F2:=(F2.mk 32 [RV.t 10,RV.t 11] (ab [cO 10 (mov (cN 0)),cO 11 (mov (cN 0))] (((mixS 1 [aa 12 4,aa 13 0,aa 14 2,cO 15 (ixaS 2 (t 13) (t 14)),aS 16 2 15,aa 17 0,aa 18 1,cO 19 (ixaS 2 (t 17) (t 18)),aS 20 2 19,cO 21 (call (t 12) [t 16,t 20]),ao 22 .lss 21 0] [(0,0),(1,0),(2,0),(3,0),(4,0),(5,0),(6,0),(7,0),(8,0),(9,2),(10,0)]).seq (az 22 (ab [aa 23 3,cO 24 (nilck (t 23)),aP 25 24,ao 26 .add 25 1,cO 27 (nilck (t 23)),aW 1 27 26] (ab [aa 28 2,aa 29 1,aa 10 28,aa 11 29] ret)) skip)).seq (ab [aa 30 1,aa 31 2,aa 10 30,aa 11 31] ret))))
theorem yd:Is Try.prog 101 yV:=Is.mk' Try.func101 (by kernel_rfl)
end Go.Proofs.Ytpfkjcjgdilkkaa
namespace Go.Proofs.Ytpfkjcjgdilkkaa
open Go Go.Abs
def swp {α:Type} [Inhabited α] (L:List α) (i j:Nat):List α:=(L.set i (L.getD j default)).set j (L.getD i default)
structure PermR {α:Type} [Inhabited α] (a b:Nat) (L L':List α):Prop where
 len:L'.length=L.length
 out:∀ i,i < a ∨ b ≤ i→L'.getD i default=L.getD i default
 perm:L'.Perm L
section
variable {α:Type} [Inhabited α] {a b a' b':Nat} {L L' L'':List α}
theorem di {l:List α} {i j:Nat} {x:α} (h:i < l.length):(l.set i x).getD j default=if i=j then x else l.getD j default:=by
 simp only [List.getD,List.getElem?_set];split
 ·rename_i e; subst e; simp [h]
 ·rfl
theorem tT (i j:Nat):(swp L i j).length=L.length:=by simp [swp]
theorem c8 {i j:Nat} (hi:i < L.length) (hj:j < L.length) (k:Nat):(swp L i j).getD k default=if k=j then L.getD i default else if k=i then L.getD j default else L.getD k default:=by
 unfold swp;rw [di (by simpa using hj),di hi];by_cases e:k=j
 ·subst e; simp
 ·rw [if_neg (fun h=>e h.symm),if_neg e];by_cases e2:k=i
  ·subst e2; simp
  ·rw [if_neg (fun h=>e2 h.symm),if_neg e2]
theorem wq {i j:Nat} (hi:i < L.length) (hj:j < L.length):(swp L i j).Perm L:=by
 unfold swp;have e1:L.getD i default=L[i]:=by simp [List.getD,hi]
 have e2:L.getD j default=L[j]:=by simp [List.getD,hj]
 rw [e1,e2];exact List.set_set_perm hi hj
theorem PermR.refl:PermR a b L L:=⟨rfl,fun _ _=>rfl,List.Perm.refl _⟩
theorem PermR.trans (h:PermR a b L L') (k:PermR a b L' L''):PermR a b L L'':=⟨k.len.trans h.len,fun i hi=>(k.out i hi).trans (h.out i hi),k.perm.trans h.perm⟩
theorem PermR.mono (h:PermR a' b' L L') (h1:a ≤ a') (h2:b' ≤ b):PermR a b L L':=⟨h.len,fun i hi=>h.out i (by omega),h.perm⟩
theorem PermR.swap {i j:Nat} (h1:a ≤ i∧i < b) (h2:a ≤ j∧j < b) (hb:b ≤ L.length):PermR a b L (swp L i j) :=
 ⟨tT i j,fun k hk=>by rw [c8 (by omega) (by omega),if_neg (by omega),if_neg (by omega)],wq (by omega) (by omega)⟩
theorem qU {l m:List α} (hl:l.length=m.length) (h:∀ i,i < l.length→l.getD i default=m.getD i default):l=m :=
 List.ext_getElem hl (fun i h1 h2=>by
  have:=h i h1;simpa [List.getD,h1,h2] using this)
theorem PermR.mid (h:PermR a b L L') (hab:a ≤ b) (hb:b ≤ L.length):((L'.drop a).take (b - a)).Perm ((L.drop a).take (b - a)):=by
 have e1:∀ M:List α,b ≤ M.length→M=M.take a ++ ((M.drop a).take (b - a) ++ M.drop b):=fun M hM=>by
  have:M.drop b=(M.drop a).drop (b - a):=by rw [List.drop_drop]; congr 1; omega
  rw [this,List.take_append_drop,List.take_append_drop]
 have t:L'.take a=L.take a:=qU (by simp [h.len]) (fun i hi=>by
  have hi':i < a:=by simp at hi; omega
  rw [oY hi',oY hi']; exact h.out i (.inl hi'))
 have d:L'.drop b=L.drop b:=qU (by simp [h.len]) (fun i hi=>by
  have e:∀ M:List α,(M.drop b).getD i default=M.getD (b + i) default:=fun M=>by simp [List.getD,ga]
  rw [e,e]; exact h.out (b + i) (.inr (by omega)))
 have p:=h.perm;rw [e1 L' (by rw [h.len]; exact hb),e1 L hb,t,d] at p;exact (List.perm_append_right_iff _).1 ((List.perm_append_left_iff _).1 p)
theorem tx {M:List α} {x:α} (hab:a ≤ b) (hb:b ≤ M.length):x ∈ (M.drop a).take (b - a) ↔ ∃ i,a ≤ i∧i < b∧M.getD i default=x:=by
 constructor
 ·intro h;obtain ⟨j,hj,e⟩:=lh h;have hj':j < b - a:=by simp at hj; omega
  refine ⟨a + j,by omega,by omega,?_⟩;rw [← e];simp [List.getD,List.getElem_take,List.getElem_drop,show a + j < M.length by omega]
 ·rintro ⟨i,h1,h2,rfl⟩;rw [List.mem_iff_getElem?];refine ⟨i - a,?_⟩;rw [eX,if_pos (by omega),ga,show a + (i - a)=i by omega];simp [List.getD,show i < M.length by omega]
theorem PermR.all {p:α→Prop} (h:PermR a b L L') (hab:a ≤ b) (hb:b ≤ L.length) (hp:∀ i,a ≤ i→i < b→p (L.getD i default)):∀ i,a ≤ i→i < b→p (L'.getD i default):=by
 intro i h1 h2;have hm:L'.getD i default ∈ (L'.drop a).take (b - a):=(tx hab (by rw [h.len]; exact hb)).2 ⟨i,h1,h2,rfl⟩;obtain ⟨j,k1,k2,e⟩:=(tx hab hb).1 ((h.mid hab hb).mem_iff.1 hm);rw [← e]; exact hp j k1 k2
end
structure Ord {α:Type} (K:α→α→Int):Prop where
 irr:∀ x,¬ K x x < 0
 asym:∀ x y,K x y < 0→¬ K y x < 0
 negtr:∀ x y z,¬ K y x < 0→¬ K z y < 0→¬ K z x < 0
def aL {α:Type} [Inhabited α] (K:α→α→Int) (a b:Nat) (L:List α):Prop:=∀ i j,a ≤ i→i < j→j < b→¬ K (L.getD j default) (L.getD i default) < 0
theorem aL.one {α:Type} [Inhabited α] {K:α→α→Int} {a b:Nat} {L:List α} (h:b ≤ a + 1):aL K a b L:=fun i j h1 h2 h3=>by omega
structure LinK {α:Type} (K:α→α→Int):Prop where
 ord:Ord K
 eq:∀ x y,¬ K x y < 0→¬ K y x < 0→x=y
def cr {α:Type} (K:α→α→Int) (l:List α):Prop:=l.Pairwise fun x y=>K x y < 0
def pZ {α:Type} (K:α→α→Int):List α→α→List α
 | [],v=>[v]
 | a :: l,v=>if K v a < 0 then v :: a :: l else a :: pZ K l v
section
variable {α:Type} [DecidableEq α] {K:α→α→Int}
def ow (K:α→α→Int) (acc:List α) (v:α):List α:=if v ∈ acc then acc else pZ K acc v
def oC (K:α→α→Int) (acc l:List α):List α:=l.foldl (ow K) acc
def dh (K:α→α→Int) (l:List α):List α:=oC K [] l
omit [DecidableEq α] in
theorem cr.nil:cr K ([]:List α):=List.Pairwise.nil
omit [DecidableEq α] in
theorem cr.nodup {l:List α} (hK:LinK K) (h:cr K l):l.Nodup:=List.Pairwise.imp (fun {a b} h e=>by subst e; exact hK.ord.irr a h) h
omit [DecidableEq α] in
theorem LinK.tri (hK:LinK K) (x y:α):K x y < 0 ∨ x=y ∨ K y x < 0:=by
 by_cases h1:K x y < 0
 ·exact .inl h1
 ·by_cases h2:K y x < 0
  ·exact .inr (.inr h2)
  ·exact .inr (.inl (hK.eq x y h1 h2))
omit [DecidableEq α] in
theorem LinK.trans (hK:LinK K) {x y z:α} (h1:K x y < 0) (h2:K y z < 0):K x z < 0:=by
 refine Decidable.byContradiction fun hn=>?_;exact hK.ord.negtr z x y hn (hK.ord.asym _ _ h1) h2
omit [DecidableEq α] in
theorem fK {a b:List α} (hK:LinK K) (ha:cr K a) (hb:cr K b) (h:∀ x,x ∈ a ↔ x ∈ b):a=b:=by
 classical
 have hp:a.Perm b:=(List.perm_ext_iff_of_nodup (ha.nodup hK) (hb.nodup hK)).2 h;exact List.Perm.eq_of_pairwise (fun x y _ _ h1 h2=>absurd h2 (hK.ord.asym _ _ h1)) ha hb hp
omit [DecidableEq α] in
theorem rZ {l:List α} {v x:α}:x ∈ pZ K l v ↔ x ∈ l ∨ x=v:=by
 induction l with
 | nil=>simp [pZ]
 | cons a l ih =>
  unfold pZ;split
  ·simp only [ij];exact ⟨fun h=>h.elim .inr .inl,fun h=>h.elim .inr .inl⟩
  ·rw [ij,ih,ij,or_assoc]
omit [DecidableEq α] in
theorem vG {l:List α} {v:α} (hK:LinK K) (h:cr K l) (hv:v ∉ l):cr K (pZ K l v):=by
 induction l with
 | nil=>exact List.pairwise_singleton _ _
 | cons a l ih =>
  unfold cr at h;rw [rh] at h;unfold pZ;split
  ·rename_i hlt
   exact rh.2 ⟨fun y hy=>by
    rcases ij.1 hy with rfl | hy
    ·exact hlt
    ·exact hK.trans hlt (h.1 y hy),rh.2 h⟩
  ·rename_i hlt;refine rh.2 ⟨fun y hy=>?_,ih h.2 fun hm=>hv (List.mem_cons_of_mem _ hm)⟩;rcases rZ.1 hy with hy | rfl
   ·exact h.1 y hy
   ·rcases hK.tri y a with k | k | k
    ·exact absurd k hlt
    ·exact absurd (k ▸ qj) hv
    ·exact k
omit [DecidableEq α] in
theorem we {l:List α} {v:α}:(pZ K l v).length=l.length + 1:=by
 induction l with
 | nil=>rfl
 | cons a l ih=>unfold pZ; split <;> simp [ih]
theorem wK {acc:List α} {v x:α}:x ∈ ow K acc v ↔ x ∈ acc ∨ x=v:=by
 unfold ow;split
 ·rename_i h;exact ⟨.inl,fun h2=>h2.elim id (fun e=>e ▸ h)⟩
 ·exact rZ
theorem w6 {acc:List α} {v:α} (hK:LinK K) (h:cr K acc):cr K (ow K acc v):=by
 unfold ow;split
 ·exact h
 ·rename_i hn;exact vG hK h hn
theorem vD {acc:List α} {v:α}:(ow K acc v).length ≤ acc.length + 1:=by
 unfold ow;split
 ·omega
 ·rw [we]; exact aJ _
theorem rE:∀ {l acc:List α} {x:α},x ∈ oC K acc l ↔ x ∈ acc ∨ x ∈ l
 | [],acc,x=>by simp [oC]
 | v :: l,acc,x=>by
  rw [show oC K acc (v :: l)=oC K (ow K acc v) l from rfl,rE,wK,ij,or_assoc]
theorem rN (hK:LinK K):∀ {l acc:List α},cr K acc→cr K (oC K acc l)
 | [],_,h=>h
 | v :: l,acc,h=>rN hK (l:=l) (w6 hK (v:=v) h)
theorem ro:∀ {l acc:List α},(oC K acc l).length ≤ acc.length + l.length
 | [],acc=>by simp [oC]
 | v :: l,acc=>by
  rw [show oC K acc (v :: l)=oC K (ow K acc v) l from rfl];have:=ro (l:=l) (acc:=ow K acc v);have:=vD (K:=K) (acc:=acc) (v:=v);rw [dX]; omega
theorem iw (hK:LinK K) (l:List α):cr K (dh K l):=rN hK List.Pairwise.nil
theorem fc {l:List α} {x:α}:x ∈ dh K l ↔ x ∈ l:=by
 unfold dh; rw [rE]; simp
theorem kc {l:List α}:(dh K l).length ≤ l.length:=by
 have:=ro (K:=K) (l:=l) (acc:=[]);unfold dh;rw [er] at this;omega
end
section
variable {α:Type} [Inhabited α] [DecidableEq α]
def bC (l:List α):Nat→Nat
 | 0=>0
 | k + 1=>bC l k + if k=0 ∨ l.getD k default ≠ l.getD (k - 1) default then 1 else 0
theorem rF (l:List α) (k:Nat):bC l k ≤ k:=by
 induction k with
 | zero=>exact aJ _
 | succ k ih=>unfold bC; split <;> omega
theorem dK {l:List α} {k:Nat} (hk:k ≠ 0) (h:l.getD k default=l.getD (k - 1) default):bC l (k + 1)=bC l k:=by
 rw [bC,if_neg (by rintro (h' | h'); exact hk h'; exact h' h)]; rfl
theorem gP {l:List α} {k:Nat} (h:l.getD k default ≠ l.getD (k - 1) default):bC l (k + 1)=bC l k + 1:=by
 rw [bC,if_pos (.inr h)]
def dy (l:List α):Nat→List α
 | 0=>[]
 | k + 1=>dy l k ++ if k=0 ∨ l.getD k default ≠ l.getD (k - 1) default then [l.getD k default] else []
theorem o6 (l:List α) (k:Nat):(dy l k).length=bC l k:=by
 induction k with
 | zero=>rfl
 | succ k ih=>rw [dy,bC,ea,ih]; split <;> rfl
theorem gW {l:List α} {k:Nat} (hk:k ≠ 0) (h:l.getD k default=l.getD (k - 1) default):dy l (k + 1)=dy l k:=by
 rw [dy,if_neg (by rintro (h' | h'); exact hk h'; exact h' h),mo]
theorem hY {l:List α} {k:Nat} (h:l.getD k default ≠ l.getD (k - 1) default):dy l (k + 1)=dy l k ++ [l.getD k default]:=by
 rw [dy,if_pos (.inr h)]
theorem lz {l:List α}:∀ {k:Nat},k ≤ l.length→∀ x,x ∈ dy l k ↔ ∃ j,j < k∧l.getD j default=x
 | 0,_,x=>by simp [dy]
 | k + 1,hk,x=>by
  have ih:=lz (l:=l) (k:=k) (by omega) x;rw [dy,jk,ih];constructor
  ·rintro (⟨j,h1,h2⟩ | h)
   ·exact ⟨j,by omega,h2⟩
   ·split at h
    ·rw [fF] at h; exact ⟨k,by omega,h.symm⟩
    ·simp at h
  ·rintro ⟨j,h1,h2⟩;by_cases e:j=k
   ·subst e;by_cases c:j=0 ∨ l.getD j default ≠ l.getD (j - 1) default
    ·right; rw [if_pos c,fF]; exact h2.symm
    ·left;have c1:j ≠ 0:=fun h=>c (.inl h);have c2:l.getD j default=l.getD (j - 1) default:=oM fun h=>c (.inr h);exact ⟨j - 1,by omega,by rw [← c2]; exact h2⟩
   ·left; exact ⟨j,by omega,h2⟩
theorem o7 {K:α→α→Int} (hK:LinK K) {l:List α} (hs:∀ i j,i < j→j < l.length→¬ K (l.getD j default) (l.getD i default) < 0):∀ {k:Nat},k ≤ l.length→cr K (dy l k)
 | 0,_=>List.Pairwise.nil
 | k + 1,hk=>by
  have ih:=o7 hK hs (k:=k) (by omega);unfold cr;rw [dy,List.pairwise_append];refine ⟨ih,by split <;> simp,fun x hx y hy=>?_⟩;split at hy
  ·rename_i c;rw [fF] at hy;subst hy;obtain ⟨j,h1,rfl⟩:=(lz (by omega) x).1 hx;rcases c with c | c
   ·omega
   ·refine Decidable.byContradiction fun hn=>?_;have a2:=hs (k - 1) k (by omega) (by omega);have hne:K (l.getD (k - 1) default) (l.getD k default) < 0:=Decidable.byContradiction fun h3=>c (hK.eq _ _ a2 h3);by_cases e:j=k - 1
    ·rw [e] at hn; exact hn hne
    ·have a1:=hs j (k - 1) (by omega) (by omega);exact hK.ord.negtr _ _ _ hn a1 hne
  ·simp at hy
omit [DecidableEq α] in
theorem wL {M:List α} {x:α}:(∃ j,j < M.length∧M.getD j default=x) ↔ x ∈ M:=by
 constructor
 ·rintro ⟨j,h1,rfl⟩; simp [List.getD,h1]
 ·intro h;obtain ⟨j,hj,rfl⟩:=lh h;exact ⟨j,hj,by simp [List.getD,hj]⟩
theorem pn {K:α→α→Int} (hK:LinK K) {l M:List α} (hp:M.Perm l) (hs:aL K 0 M.length M):dy M M.length=dh K l:=by
 refine fK hK (o7 hK (fun i j h1 h2=>hs i j (cP _) h1 h2) (aJ _)) (iw hK l) fun x=>?_;rw [lz (aJ _),wL,hp.mem_iff,fc]
end
abbrev Shn {α:Type} (l:List α):Prop:=l.length ≤ 17592186044416
structure Vtx where
 color:Int
 label:Int
 deriving Inhabited,DecidableEq
abbrev Spx:=List Vtx
def lI (v:Vtx):List AV:=[.int .i64 v.color,.int .i64 v.label]
abbrev bV (v:Vtx):AV:=.agg [.int .i64 v.color,.int .i64 v.label]
def av (l:Spx):AV:=fS 2 bV l
def ay (l:List Spx):AV:=fS 1 av l
def cX (l:Spx):List AV:=l.flatMap lI
theorem bW (v:Vtx):Dat (bV v):=Dat.agg (DatL.cons .int (DatL.cons .int DatL.nil))
theorem aD (l:Spx):Dat (av l):=mH (fun x _ c hc=>by
 simp only [bV,AV.cells,ij,List.not_mem_nil,or_false] at hc;rcases hc with rfl | rfl <;> exact .int)
theorem bz (l:List Spx):Dat (ay l):=mH (fun x _ c hc=>by
 simp only [av,fS,AV.cells,fF] at hc; subst hc; exact aD x)
instance datI_encX {v:Vtx}:DatI (bV v):=⟨bW v⟩
instance datI_encXs {l:Spx}:DatI (av l):=⟨aD l⟩
instance datI_encXss {l:List Spx}:DatI (ay l):=⟨bz l⟩
theorem bv {l:Spx}:(av l).cells=[av l]:=rfl
theorem bP {l:Spx}:(av l).one=true:=rfl
theorem ax {l:List Spx}:(ay l).cells=[ay l]:=rfl
theorem aE {l:List Spx}:(ay l).one=true:=rfl
theorem sT {l:Spx} {k:IntKind} {n:Int}:ff 2 (av l) (.int k n)=if 0 ≤ n∧n < l.length then some (.iptr [.int .i64 (l.getD n.toNat default).color,.int .i64 (l.getD n.toNat default).label] 0) else none:=oO
theorem ar {l:Spx}:cU (av l)=some (.int .i64 l.length):=nH
theorem sd {l:List Spx} {k:IntKind} {n:Int}:ff 1 (ay l) (.int k n)=if 0 ≤ n∧n < l.length then some (.iptr [av (l.getD n.toNat default)] 0) else none:=oO
theorem ak {l:List Spx}:cU (ay l)=some (.int .i64 l.length):=nH
theorem ix2 {l:Spx} {k:Nat} (h:k < l.length):ff 2 (av l) (.int .i64 (k:Int))=some (.iptr [.int .i64 (l.getD k default).color,.int .i64 (l.getD k default).label] 0):=by
 rw [sT,if_pos ⟨by omega,by omega⟩,br]
theorem eT {l:List Spx} {k:Nat} (h:k < l.length):ff 1 (ay l) (.int .i64 (k:Int))=some (.iptr [av (l.getD k default)] 0):=by
 rw [sd,if_pos ⟨by omega,by omega⟩,br]
theorem fN (l:Spx):(cX l).length=l.length * 2:=by
 induction l with
 | nil=>rfl
 | cons a l ih=>rw [cX,List.flatMap_cons,ea,dX,show (l.flatMap lI).length=l.length * 2 from ih]; show 2 + _=_; omega
theorem kH (l m:Spx):cX (l ++ m)=cX l ++ cX m:=List.flatMap_append
theorem s0 (l:Spx):(l.map bV).flatMap AV.cells=cX l:=by
 induction l with
 | nil=>rfl
 | cons a l ih=>rw [im,List.flatMap_cons,ih]; rfl
theorem qs {H:Hp} {s:AV} {l:Spx} (h:Row H 2 s (cX l)):Snap H s (av l):=by
 refine Row.snap (elems:=l.map bV) (by rw [s0]; exact h) (fun y hy=>?_) (by omega) (fun y hy c hx=>?_)
 ·obtain ⟨n,_,rfl⟩:=eE.1 hy; rfl
 ·obtain ⟨n,_,rfl⟩:=eE.1 hy;simp only [bV,AV.cells,ij,List.not_mem_nil,or_false] at hx;rcases hx with rfl | rfl <;> exact .int
theorem gJ {H:Hp} {s:AV} {l:List Spx} (h:Row H 1 s (l.map av)):Snap H s (ay l):=h.snapL' (fun _=>rfl) (fun x _=>aD x)
theorem vW {H:Hp} {l:Spx}:dL 2 H (av l)=some (l.length,cX l):=by
 unfold av fS; rw [s9,s0]; simp
theorem mM {H:Hp} {l:List Spx}:dL 1 H (ay l)=some (l.length,l.map av):=um (fun _=>rfl)
theorem pG (l:Spx):AV.ones (cX l)=true:=by
 unfold AV.ones;rw [eu];intro x hx;obtain ⟨v,_,hv⟩:=List.mem_flatMap.1 hx;simp only [lI,ij,List.not_mem_nil,or_false] at hv;rcases hv with rfl | rfl <;> rfl
def bm (v w:Vtx):Int:=if v.color < w.color then -1 else if v.color > w.color then 1 else if v.label < w.label then -1 else if v.label > w.label then 1 else 0
def bO:Spx→Spx→Int
 | [],[]=>0
 | [],_ :: _=>-1
 | _ :: _,[]=>1
 | a :: l,b :: m=>if bm a b ≠ 0 then bm a b else bO l m
theorem jZ {v w:Vtx}:bm v w < 0 ↔ v.color < w.color ∨ (v.color=w.color∧v.label < w.label):=by
 unfold bm; (repeat' split) <;> constructor <;> intro h <;> omega
theorem py {v w:Vtx}:v=w ↔ v.color=w.color∧v.label=w.label:=by
 obtain ⟨a,b⟩:=v;obtain ⟨c,d⟩:=w;simp
theorem gz {v w:Vtx}:bm v w=0 ↔ v=w:=by
 rw [py]; unfold bm; (repeat' split) <;> constructor <;> intro h <;> omega
theorem oP (v w:Vtx):bm w v=- bm v w:=by
 unfold bm; (repeat' split) <;> omega
theorem lG:LinK bm where
 ord:={ irr:=fun x=>by rw [jZ]; omega,asym:=fun x y h=>by rw [jZ] at *; omega,negtr:=fun x y z h1 h2=>by rw [jZ] at *; omega }
 eq:=fun x y h1 h2=>by rw [jZ] at *; rw [py]; omega
theorem kS:∀ l:Spx,bO l l=0
 | []=>rfl
 | a :: l=>by rw [bO,gz.2 rfl,if_neg (by simp)]; exact kS l
theorem qk:∀ {l m:Spx},bO l m=0→l=m
 | [],[],_=>rfl
 | [],_ :: _,h=>by simp [bO] at h
 | _ :: _,[],h=>by simp [bO] at h
 | a :: l,b :: m,h=>by
  rw [bO] at h;by_cases e:bm a b=0
  ·rw [if_neg (fun h=>h e)] at h;rw [gz.1 e,qk h]
  ·rw [if_pos e] at h; exact absurd h e
theorem u0 {l m:Spx}:bO l m=0 ↔ l=m:=⟨qk,fun h=>by rw [h]; exact kS _⟩
theorem kY:∀ l m:Spx,bO m l=- bO l m
 | [],[]=>rfl
 | [],_ :: _=>rfl
 | _ :: _,[]=>rfl
 | a :: l,b :: m=>by
  rw [bO,bO,oP a b];by_cases e:bm a b=0
  ·rw [e,if_neg (by simp),if_neg (by simp)]; exact kY l m
  ·rw [if_pos (by omega),if_pos e]
theorem mJ:∀ (x y z:Spx),¬ bO y x < 0→¬ bO z y < 0→¬ bO z x < 0
 | [],_,[],_,_=>by simp [bO]
 | [],_,_ :: _,_,_=>by simp [bO]
 | _ :: _,[],_,h,_=>by simp [bO] at h
 | _ :: _,_ :: _,[],_,h=>by simp [bO] at h
 | a :: x,b :: y,c :: z,h1,h2=>by
  rw [bO] at h1 h2 ⊢;have n:=lG.ord.negtr a b c;by_cases e1:bm b a=0
  ·have e1':=gz.1 e1;subst e1';rw [if_neg (fun h=>h e1)] at h1;by_cases e2:bm c b=0
   ·rw [if_neg (fun h=>h e2)] at h2 ⊢;exact mJ x y z h1 h2
   ·rw [if_pos e2] at h2 ⊢; exact h2
  ·rw [if_pos e1] at h1;by_cases e2:bm c b=0
   ·have e2':=gz.1 e2;subst e2';rw [if_pos e1]; exact h1
   ·rw [if_pos e2] at h2;have h3:=n h1 h2;by_cases e3:bm c a=0
    ·exfalso;have e3':=gz.1 e3;subst e3';have:=oP b c;omega
    ·rw [if_pos e3]; exact h3
theorem oJ:LinK bO where
 ord:={ irr:=fun x=>by rw [kS]; omega,asym:=fun x y h=>by rw [kY]; omega,negtr:=mJ }
 eq:=fun x y h1 h2=>by
  have:=kY x y;exact qk (by omega)
theorem pb {l m:Spx} {k:Nat} (h1:k < l.length) (h2:k < m.length):bO (l.drop k) (m.drop k)=if bm (l.getD k default) (m.getD k default) ≠ 0 then bm (l.getD k default) (m.getD k default) else bO (l.drop (k + 1)) (m.drop (k + 1)):=by
 rw [fJ h1,fJ h2,bO]
theorem nT {l m:Spx} {k:Nat} (h:l.length ≤ k ∨ m.length ≤ k) (hk:k ≤ l.length∧k ≤ m.length):bO (l.drop k) (m.drop k)=if l.length < m.length then -1 else if m.length < l.length then 1 else 0:=by
 by_cases e1:l.length=k
 ·rw [List.drop_eq_nil_of_le (show l.length ≤ k by omega)];by_cases e2:m.length=k
  ·rw [List.drop_eq_nil_of_le (by omega),if_neg (by omega),if_neg (by omega)]; rfl
  ·rw [fJ (l:=m) (k:=k) (by omega),if_pos (by omega)]; rfl
 ·have e2:m.length=k:=by omega
  rw [fJ (l:=l) (k:=k) (by omega),List.drop_eq_nil_of_le (show m.length ≤ k by omega),if_neg (by omega),if_pos (by omega)]; rfl
def cQ (f:Nat→Int):Nat→Int
 | 0=>0
 | n + 1=>if cQ f n ≠ 0 then cQ f n else f n
theorem dq {f:Nat→Int}:∀ {n:Nat},(∀ i,i < n→f i=0)→cQ f n=0
 | 0,_=>rfl
 | n + 1,h=>by
  have:=dq (f:=f) (n:=n) (fun i hi=>h i (by omega));rw [cQ,this,if_neg (by simp)]; exact h n (by omega)
theorem dr {f:Nat→Int}:∀ {n k:Nat},k < n→(∀ i,i < k→f i=0)→f k ≠ 0→cQ f n=f k
 | 0,k,h,_,_=>absurd h (by omega)
 | n + 1,k,h,h0,hk=>by
  rw [cQ];by_cases e:k=n
  ·subst e;rw [dq h0,if_neg (by simp)]
  ·rw [dr (n:=n) (by omega) h0 hk,if_pos hk]
theorem gL {f:Nat→Int}:∀ {n:Nat},cQ f n=0→∀ i,i < n→f i=0
 | 0,_,i,h=>absurd h (by omega)
 | n + 1,h,i,hi=>by
  rw [cQ] at h;by_cases e:cQ f n=0
  ·rw [e,if_neg (by simp)] at h;by_cases ei:i=n
   ·subst ei; exact h
   ·exact gL e i (by omega)
  ·rw [if_pos e] at h; exact absurd h e
def eI (v:Vtx):Bool:=decide (0 ≤ v.color) && decide (v.color < 8) && (decide (0 ≤ v.label) && decide (v.label ≤ 1048576))
def lZ (l:Spx) (k:Nat):Int:=if eI (l.getD k default)=false then 2 else if 0 < k∧0 ≤ bm (l.getD (k - 1) default) (l.getD k default) then 14 else 0
def bL (l:Spx):Int:=if l.length=0 then 16 else if 8 < l.length then 5 else cQ (lZ l) l.length
theorem bQ {l:Spx} (h:bL l=0):1 ≤ l.length∧l.length ≤ 8∧cr bm l∧∀ v ∈ l,eI v=true:=by
 unfold bL at h;split at h
 ·exact absurd h (by decide)
 split at h
 ·exact absurd h (by decide)
 rename_i h1 h2;have hz:=gL h
 have h3:∀ k,k < l.length→eI (l.getD k default)=true∧(0 < k→bm (l.getD (k - 1) default) (l.getD k default) < 0):=fun k hk=>by
  have:=hz k hk;unfold lZ at this;split at this
  ·exact absurd this (by decide)
  rename_i g1;split at this
  ·exact absurd this (by decide)
  rename_i g2;exact ⟨by simpa using g1,fun h0=>by omega⟩
 refine ⟨by omega,by omega,?_,fun v hv=>?_⟩
 ·have step:∀ j i,i < j→j < l.length→bm (l.getD i default) (l.getD j default) < 0:=by
    intro j
    induction j with
    | zero=>intro i h; omega
    | succ j ih =>
     intro i hi hj;have hs:=(h3 (j + 1) hj).2 (by omega);rw [iL] at hs;by_cases e:i=j
     ·subst e; exact hs
     ·exact lG.trans (ih i (by omega) (by omega)) hs
  unfold cr;rw [List.pairwise_iff_getElem];intro i j hi hj hij;have:=step j i hij hj;simpa [List.getD,hi,hj] using this
 ·obtain ⟨i,hi,rfl⟩:=lh hv;have:=(h3 i hi).1;simpa [List.getD,hi] using this
theorem eL {α:Type} [Inhabited α] {K:α→α→Int} {l:List α} (h:cr K l) {i j:Nat} (hij:i < j) (hj:j < l.length):K (l.getD i default) (l.getD j default) < 0:=by
 have:=List.pairwise_iff_getElem.1 h i j (by omega) hj hij;simpa [List.getD,hj,show i < l.length by omega] using this
theorem qY {l:Spx} (h1:1 ≤ l.length∧l.length ≤ 8) (h2:cr bm l) (h3:∀ v ∈ l,eI v=true):bL l=0:=by
 unfold bL;rw [if_neg (by omega),if_neg (by omega)];refine dq fun k hk=>?_;unfold lZ;rw [h3 _ (aC hk),if_neg (by simp),if_neg];rintro ⟨h0,h4⟩;have:=eL h2 (i:=k - 1) (j:=k) (by omega) hk;omega
end Go.Proofs.Ytpfkjcjgdilkkaa
namespace Go.Proofs.Ytpfkjcjgdilkkaa
open Go Go.Abs
open Nat (reduceEqDiff reduceAdd reduceLeDiff)
def c3i (a b:Int):Int:=if a < b then -1 else if a > b then 1 else 0
theorem xu (v w:Vtx):(if c3i v.color w.color ≠ 0 then c3i v.color w.color else c3i v.label w.label)=bm v w:=by
 unfold c3i bm;by_cases h1:v.color < w.color
 ·rw [if_pos h1,if_pos h1,if_pos (by simp)]
 ·rw [if_neg h1,if_neg h1];by_cases h2:v.color > w.color
  ·rw [if_pos h2,if_pos h2,if_pos (by simp)]
  ·rw [if_neg h2,if_neg h2,if_neg (by simp)]
attribute [local irreducible] aO aq bI bM bk bx aM bA bR cz Go.Abs.Fn bK Go.Abs.Pure aQ a7 Yl
theorem qZ (n:Int):Pure Try.prog 91 [.int .i64 n] (.bool false):=by
 refine Pure.of_c2 follows Aw (bd rfl) ?_;simp only [b91,aK]
 repeat' (first|refine zW ?_|refine zO ?_|refine vZ ?_|refine ai rfl ?_|refine r1Z ?_|apply a_n)
 exact bZ (bw (fun h=>h rfl))
theorem vR (a b:Int):Pure Try.prog 71 [.int .i64 a,.int .i64 b] (.int .i64 (c3i a b)):=by
 refine Pure.of_c2 follows zC (bd rfl) ?_;simp only [b71,aK];have h1:=qZ a;have h2:=qZ b;unfold c3i
 repeat' (first|refine zW ?_|apply a_r|refine zO ?_|refine vZ ?_|refine cZ ?_ (hp:=by first | exact h1 | exact h2)|refine cFZ ?_|(refine zGZ ?_ ?_ <;> (intro _hg; try (exfalso; omega)))|refine ai rfl ?_|refine r1Z ?_|apply a_n)
 all_goals (refine de ?_)
 ·rw [if_pos (by omega)]
 ·rw [if_neg (by omega),if_pos (by omega)]
 ·rw [if_neg (by omega),if_neg (by omega)]
theorem Ak (a b:Int):Pure Try.prog 70 [dV [a,b]] (.int .i64 (if a ≠ 0 then a else b)):=by
 refine Pure.of_c2 follows AS (bd rfl) ?_;simp only [b70,aK]
 repeat' (first|refine zW ?_|refine zO ?_|refine vZ ?_|apply a_n)
 refine rX (fun k=>[(3,.int .i64 0),(6,dV [a,b]),(7,.int .i64 2),(8,.int .i64 k)]) 2 (fun k=>[a,b].getD k default=0) (by (iterate 4 refine And.intro rfl ?_); trivial) ?_;intro k hk hz;rcases (by omega:k=0 ∨ k=1 ∨ k=2) with rfl | rfl | rfl
 ·have e:[a,b].getD 0 default=a:=rfl;have ix:ff 1 (dV [a,b]) (.int .i64 ((0:Nat):Int))=some (.iptr [.int .i64 a] 0):=rfl;by_cases h0:a=0
  ·have z:decide (a ≠ 0)=false:=bw (fun h=>h h0);have zz:=aI @ix @z; repeat' (first|refine zW ?_|refine zO ?_|refine vZ ?_|refine cFZ ?_|(refine zGZ ?_ ?_ <;> (intro _hg; try (exfalso; omega)))|apply a_n)
   exact ⟨by omega,h0,by (iterate 4 refine And.intro rfl ?_); trivial,rfl,rfl⟩
  ·have z:decide (a ≠ 0)=true:=bD h0;have zz:=aI @ix @z; repeat' (first|refine zW ?_|apply a_r|refine zO ?_|refine vZ ?_|refine cTZ ?_|(refine zGZ ?_ ?_ <;> (intro _hg; try (exfalso; omega)))|refine ai rfl ?_|refine r1Z ?_|apply a_n)
   rw [if_pos h0]; exact .int _ _
 ·have h0:a=0:=hz 0 (by omega);have ix:ff 1 (dV [a,b]) (.int .i64 ((1:Nat):Int))=some (.iptr [.int .i64 b] 0):=rfl;rw [if_neg (fun h=>h h0)];by_cases h1:b=0
  ·have z:decide (b ≠ 0)=false:=bw (fun h=>h h1);have zz:=aI @ix @z; repeat' (first|refine zW ?_|refine zO ?_|refine vZ ?_|refine cFZ ?_|(refine zGZ ?_ ?_ <;> (intro _hg; try (exfalso; omega)))|apply a_n)
   exact ⟨by omega,h1,by (iterate 4 refine And.intro rfl ?_); trivial,rfl,rfl⟩
  ·have z:decide (b ≠ 0)=true:=bD h1;have zz:=aI @ix @z; repeat' (first|refine zW ?_|apply a_r|refine zO ?_|refine vZ ?_|refine cTZ ?_|(refine zGZ ?_ ?_ <;> (intro _hg; try (exfalso; omega)))|refine ai rfl ?_|refine r1Z ?_|apply a_n)
   exact .int _ _
 ·have h0:a=0:=hz 0 (by omega);have h1:b=0:=hz 1 (by omega);rw [if_neg (fun h=>h h0),h1]
  repeat' (first|refine zW ?_|apply a_x|refine zO ?_|refine vZ ?_|(refine zGZ ?_ ?_ <;> (intro _hg; try (exfalso; omega)))|refine ai rfl ?_|refine r1Z ?_|apply a_n)
  exact .int _ _
theorem tw (v w:Vtx):Pure Try.prog 60 [bV v,bV w] (.int .i64 (bm v w)):=by
 refine Pure.of_c2 follows Ac (bd rfl) ?_;simp only [b60,aK];have h1:=vR v.color w.color;have h2:=vR v.label w.label;have h3:=Ak (c3i v.color w.color) (c3i v.label w.label);rw [xu] at h3
 repeat' (first|refine zW ?_|refine zM ?_|refine zO ?_|refine vZ ?_|refine cZ ?_ (hp:=by first | exact h1 | exact h2)|refine bxZ ?_|refine blZ ?_|apply a_n)
 refine dS ev0 (by ((try simp only [dj,ZA,reduceEqDiff,↓reduceIte,reduceAdd,reduceLeDiff]); (try with_reducible rfl)); rfl) h3 (ac (aB (xe al rfl rfl) ae) rfl) ?_
 repeat' (first|refine zO ?_|refine vZ ?_|refine ai rfl ?_|refine r1Z ?_|apply a_n)
 exact .int _ _
theorem n9 (v w:Vtx):Pure Try.prog 57 [bV v,bV w] (.int .i64 (bm v w)):=by
 refine Pure.of_c2 follows Bq (bd rfl) ?_;simp only [b57,aK];unfold bm
 repeat' (first|refine zW ?_|apply a_r|refine zO ?_|refine vZ ?_|refine bxZ ?_|(refine zGZ ?_ ?_ <;> (intro _hg; try (exfalso; omega)))|refine ai rfl ?_|refine r1Z ?_|apply a_n)
 all_goals (refine de ?_; (repeat' split) <;> omega)
theorem sH (v:Vtx):Pure Try.prog 59 [bV v] (.bool (eI v)):=by
 refine Pure.of_c2 follows AN (bd rfl) ?_;simp only [b59,aK];unfold eI
 repeat' (first|refine zW ?_|refine zO ?_|refine vZ ?_|refine bxZ ?_|refine gTZ ?_|refine gFZ ?_|(refine zGZ ?_ ?_ <;> (intro _hg; try (exfalso; omega)))|refine ai rfl ?_|refine r1Z ?_|apply a_n)
 all_goals (refine bZ ?_; rw [Bool.eq_iff_iff]; simp only [d8,decide_eq_true_iff,gg,false_iff]; omega)
theorem vj (v:Vtx):Pure Try.prog 56 [bV v] (.bool (eI v)):=by
 refine Pure.of_c2 follows Br (bd rfl) ?_;simp only [b56,aK];unfold eI
 repeat' (first|refine zW ?_|refine zO ?_|refine vZ ?_|refine bxZ ?_|refine gTZ ?_|refine gFZ ?_|(refine zGZ ?_ ?_ <;> (intro _hg; try (exfalso; omega)))|refine ai rfl ?_|refine r1Z ?_|apply a_n)
 all_goals (refine bZ ?_; rw [Bool.eq_iff_iff]; simp only [d8,decide_eq_true_iff,gg,false_iff]; omega)
end Go.Proofs.Ytpfkjcjgdilkkaa
namespace Go.Proofs.Ytpfkjcjgdilkkaa
open Go Go.Abs
attribute [local irreducible] aO aq bI bM bk bx aM bA bR cz Go.Abs.Fn bK Go.Abs.Pure aQ a7 Yl
theorem rP (l m:Spx) (hl:Shn l) (hm:Shn m):Pure Try.prog 63 [av l,av m,.func 60 []] (.int .i64 (bO l m)):=by
 refine Pure.of_c2 follows zZ (bd rfl) ?_;simp only [b63,aK];have hl':l.length ≤ 17592186044416:=hl;have hm':m.length ≤ 17592186044416:=hm;have zz:=@ar; repeat' (first|refine zW ?_|refine zO ?_|refine vZ ?_|apply a_n)
 refine aU (X:=Nat) (fun k=>[(0,av l),(1,av m),(2,.func 60 []),(11,av l),(12,.int .i64 l.length),(13,.int .i64 k)]) (fun k H nx=>k ≤ l.length∧k ≤ m.length∧bO l m=bO (l.drop k) (m.drop k)) (fun k=>l.length - k) 0 ⟨cP _,cP _,rfl⟩ ag0 ?_;rintro k H nx ⟨h1,h2,h3⟩;by_cases hk:k < l.length
 rotate_left
 ·rw [h3,nT (by omega) ⟨h1,h2⟩];have zz:=@ar; repeat' (first|refine zW ?_|apply a_x|apply a_r|refine zO ?_|refine vY ?_|(refine zGY ?_ ?_ <;> (intro _hg; try (exfalso; omega)))|refine ai rfl ?_|refine r1Y ?_|apply a_n)
  all_goals (refine de ?_)
  ·rw [if_pos (by omega)]
  ·rw [if_neg (by omega),if_neg (by omega)]
 have ix:=ix2 hk;by_cases hk2:k < m.length
 rotate_left
 ·rw [h3,nT (by omega) ⟨h1,h2⟩,if_neg (by omega),if_pos (by omega)];have zz:=aI @ar @ix; repeat' (first|refine zW ?_|apply a_r|refine zO ?_|refine vY ?_|refine alY ?_|refine stY ?_|(refine zGY ?_ ?_ <;> (intro _hg; try (exfalso; omega)))|refine ai rfl ?_|refine r1Y ?_|apply a_n)
  all_goals exact de rfl
 have iy:=ix2 hk2;have hc:=tw (l.getD k default) (m.getD k default);have hd:=pb hk hk2;by_cases he:bm (l.getD k default) (m.getD k default)=0
 ·rw [if_neg (fun h=>h he)] at hd;rw [he] at hc;have z:decide ((0:Int) ≠ 0)=false:=rfl;have zz:=aI @ar (aI @ix (aI @iy @z)); repeat' (first|refine zW ?_|refine zO ?_|refine vY ?_|refine cY ?_ (hp:=hc) (hs:=by (first | refine ac ?_ rfl | apply af); (repeat' (first | exact ae | apply am | apply ag | exact bW _)); first | done | fail)|refine alY ?_|refine stY ?_|refine cFY ?_|(refine zGY ?_ ?_ <;> (intro _hg; try (exfalso; omega)))|apply a_n)
  exact ⟨k + 1,by omega,⟨by omega,by omega,h3.trans hd⟩,ag0⟩
 ·rw [if_pos he] at hd;have z:decide (bm (l.getD k default) (m.getD k default) ≠ 0)=true:=bD he;rw [h3,hd];have zz:=aI @ar (aI @ix (aI @iy @z)); repeat' (first|refine zW ?_|apply a_r|refine zO ?_|refine vY ?_|refine cY ?_ (hp:=hc) (hs:=by (first | refine ac ?_ rfl | apply af); (repeat' (first | exact ae | apply am | apply ag | exact bW _)); first | done | fail)|refine alY ?_|refine stY ?_|refine cTY ?_|(refine zGY ?_ ?_ <;> (intro _hg; try (exfalso; omega)))|refine ai rfl ?_|refine r1Y ?_|apply a_n)
  exact .int _ _
theorem je (l m:Spx) (hl:Shn l) (hm:Shn m):Pure Try.prog 42 [av l,av m] (.int .i64 (bO l m)):=by
 refine Pure.of_c2 follows AI (bd rfl) ?_;simp only [b42,aK];have h:=rP l m hl hm
 repeat' (first|refine zW ?_|refine zO ?_|refine vZ ?_|refine cZ ?_ (hp:=h) (hs:=by (first | refine ac ?_ rfl | apply af); (repeat' (first | exact ae | apply am | apply ag | exact aD _ | exact Dat.func (by simp))); first | done | fail)|refine ai rfl ?_|refine r1Z ?_|apply a_n)
 exact .int _ _
theorem jQ (l m:Spx) (hl:Shn l) (hm:Shn m):Pure Try.prog 35 [av l,av m] (.int .i64 (bO l m)):=by
 refine Pure.of_c2 follows Be (bd rfl) ?_;simp only [b35,aK];have hl':l.length ≤ 17592186044416:=hl;have hm':m.length ≤ 17592186044416:=hm
 repeat' (first|refine zW ?_|refine zO ?_|refine vZ ?_|apply a_n)
 refine aU (X:=Nat) (fun k=>[(0,av l),(1,av m),(5,.int .i64 k)]) (fun k H nx=>k ≤ l.length∧k ≤ m.length∧bO l m=bO (l.drop k) (m.drop k)) (fun k=>l.length - k) 0 ⟨cP _,cP _,rfl⟩ ag0 ?_;rintro k H nx ⟨h1,h2,h3⟩;by_cases hk:k < l.length∧k < m.length
 rotate_left
 ·rw [h3,nT (by omega) ⟨h1,h2⟩];have zz:=@ar; repeat' (first|refine zW ?_|apply a_x|apply a_r|refine zO ?_|refine vY ?_|refine gTY ?_|refine gFY ?_|refine cFY ?_|(refine zGY ?_ ?_ <;> (intro _hg; try (exfalso; omega)))|refine ai rfl ?_|refine r1Y ?_|apply a_n)
  all_goals (refine de ?_; (repeat' split) <;> omega)
 have ix:=ix2 hk.1;have iy:=ix2 hk.2;have hc:=n9 (l.getD k default) (m.getD k default);have hd:=pb hk.1 hk.2;by_cases he:bm (l.getD k default) (m.getD k default)=0
 ·rw [if_neg (fun h=>h he)] at hd;rw [he] at hc;have z:decide ((0:Int) ≠ 0)=false:=rfl;have zz:=aI @ar (aI @ix (aI @iy @z)); repeat' (first|refine zW ?_|refine zM ?_|refine zO ?_|refine vY ?_|refine cY ?_ (hp:=hc) (hs:=by (first | refine ac ?_ rfl | apply af); (repeat' (first | exact ae | apply am | apply ag | exact bW _)); first | done | fail)|refine gTY ?_|refine cFY ?_|(refine zGY ?_ ?_ <;> (intro _hg; try (exfalso; omega)))|apply a_n)
  exact ⟨k + 1,by omega,⟨by omega,by omega,h3.trans hd⟩,ag0⟩
 ·rw [if_pos he] at hd;have z:decide (bm (l.getD k default) (m.getD k default) ≠ 0)=true:=bD he;rw [h3,hd];have zz:=aI @ar (aI @ix (aI @iy @z)); repeat' (first|refine zW ?_|refine zM ?_|apply a_r|refine zO ?_|refine vY ?_|refine cY ?_ (hp:=hc) (hs:=by (first | refine ac ?_ rfl | apply af); (repeat' (first | exact ae | apply am | apply ag | exact bW _)); first | done | fail)|refine gTY ?_|refine cTY ?_|(refine zGY ?_ ?_ <;> (intro _hg; try (exfalso; omega)))|refine ai rfl ?_|refine r1Y ?_|apply a_n)
  exact .int _ _
theorem xp (l m:Spx) (hl:Shn l) (hm:Shn m):Pure Try.prog 52 [av l,av m] (.bool (decide (l=m))):=by
 refine Pure.of_c2 follows Bx (bd rfl) ?_;simp only [b52,aK];have h:=jQ l m hl hm
 repeat' (first|refine zW ?_|refine zO ?_|refine vZ ?_|refine cZ ?_ (hp:=h) (hs:=by (first | refine ac ?_ rfl | apply af); (repeat' (first | exact ae | apply am | apply ag | exact aD _)); first | done | fail)|refine ai rfl ?_|refine r1Z ?_|apply a_n)
 exact bZ (decide_eq_decide.2 u0)
theorem ma {l:Spx} {k:Nat}:lZ l k=if eI (l.getD k default)=false then 2 else if 0 < k∧0 ≤ bm (l.getD (k - 1) default) (l.getD k default) then 14 else 0:=rfl
theorem n8 (l:Spx) (hl:Shn l):Pure Try.prog 37 [av l] (.int .i64 (bL l)):=by
 refine Pure.of_c2 follows zU (bd rfl) ?_;simp only [b37,aK];have hl':l.length ≤ 17592186044416:=hl;by_cases h0:l.length=0
 ·rw [show bL l=16 by unfold bL; rw [if_pos h0]];have zz:=@ar; repeat' (first|refine zW ?_|apply a_r|refine zO ?_|refine vZ ?_|(refine zGZ ?_ ?_ <;> (intro _hg; try (exfalso; omega)))|refine ai rfl ?_|refine r1Z ?_|apply a_n)
  all_goals exact de rfl
 by_cases h8:8 < l.length
 ·rw [show bL l=5 by unfold bL; rw [if_neg h0,if_pos h8]];have zz:=@ar; repeat' (first|refine zW ?_|apply a_r|refine zO ?_|refine vZ ?_|(refine zGZ ?_ ?_ <;> (intro _hg; try (exfalso; omega)))|refine ai rfl ?_|refine r1Z ?_|apply a_n)
  all_goals exact de rfl
 rw [show bL l=cQ (lZ l) l.length by unfold bL; rw [if_neg h0,if_neg h8]];have zz:=@ar; repeat' (first|refine zW ?_|refine zO ?_|refine vZ ?_|(refine zGZ ?_ ?_ <;> (intro _hg; try (exfalso; omega)))|apply a_n)
 refine aU (X:=Nat) (fun k=>[(0,av l),(13,av l),(14,.int .i64 l.length),(15,.int .i64 k)]) (fun k H nx=>k ≤ l.length∧∀ i,i < k→lZ l i=0) (fun k=>l.length - k) 0 ⟨cP _,fun i h=>absurd h (by omega)⟩ ag0 ?_;rintro k H nx ⟨h1,h2⟩;by_cases hk:k < l.length
 rotate_left
 ·rw [dq fun i hi=>h2 i (by omega)];have zz:=@ar; repeat' (first|refine zW ?_|apply a_x|refine zO ?_|refine vY ?_|(refine zGY ?_ ?_ <;> (intro _hg; try (exfalso; omega)))|refine ai rfl ?_|refine r1Y ?_|apply a_n)
  exact .int _ _
 have ix:=ix2 hk;have hp:=sH (l.getD k default);have hs:=ma (l:=l) (k:=k);cases hr:eI (l.getD k default)
 ·rw [hr] at hp;rw [hr,if_pos rfl] at hs;rw [dr hk h2 (by rw [hs]; decide),hs];have zz:=aI @ar @ix; repeat' (first|refine zW ?_|apply a_r|refine zO ?_|refine vY ?_|refine cY ?_ (hp:=hp) (hs:=by (first | refine ac ?_ rfl | apply af); (repeat' (first | exact ae | apply am | apply ag | exact bW _)); first | done | fail)|refine alY ?_|refine stY ?_|refine cTY ?_|(refine zGY ?_ ?_ <;> (intro _hg; try (exfalso; omega)))|refine ai rfl ?_|refine r1Y ?_|apply a_n)
  exact .int _ _
 rw [hr] at hp;rw [hr,if_neg (by decide)] at hs;by_cases hk0:0 < k
 rotate_left
 ·rw [if_neg (fun h=>hk0 h.1)] at hs;have zk:decide (0 < (k:Int))=false:=bw (by omega);have zz:=aI @ar (aI @ix @zk); repeat' (first|refine zW ?_|refine zM ?_|refine zO ?_|refine vY ?_|refine cY ?_ (hp:=hp) (hs:=by (first | refine ac ?_ rfl | apply af); (repeat' (first | exact ae | apply am | apply ag | exact bW _)); first | done | fail)|refine alY ?_|refine stY ?_|refine gFY ?_|refine cFY ?_|(refine zGY ?_ ?_ <;> (intro _hg; try (exfalso; omega)))|apply a_n)
  exact ⟨k + 1,by omega,⟨by omega,fun i hi=>by
   rcases ig.1 hi with h | rfl
   ·exact h2 i h
   ·exact hs⟩,ag0⟩
 have zk:decide (0 < (k:Int))=true:=bD (by omega)
 have iy:ff 2 (av l) (.int .i64 ((k:Int) - 1))=some (.iptr [.int .i64 (l.getD (k - 1) default).color,.int .i64 (l.getD (k - 1) default).label] 0):=by
  have:=ix2 (l:=l) (k:=k - 1) (by omega)
  rwa [show ((k - 1:Nat):Int)=(k:Int) - 1 by omega] at this
 have hc:=tw (l.getD (k - 1) default) (l.getD k default);by_cases hv:0 ≤ bm (l.getD (k - 1) default) (l.getD k default)
 ·have z:decide (0 ≤ bm (l.getD (k - 1) default) (l.getD k default))=true:=bD hv;rw [if_pos ⟨hk0,hv⟩] at hs;rw [dr hk h2 (by rw [hs]; decide),hs];have zz:=aI @ar (aI @ix (aI @iy (aI @zk @z))); repeat' (first|refine zW ?_|refine zM ?_|apply a_r|refine zO ?_|refine vY ?_|refine cY ?_ (hp:=by first | exact hp | exact hc) (hs:=by (first | refine ac ?_ rfl | apply af); (repeat' (first | exact ae | apply am | apply ag | exact bW _)); first | done | fail)|refine alY ?_|refine stY ?_|refine gTY ?_|refine cTY ?_|refine cFY ?_|(refine zGY ?_ ?_ <;> (intro _hg; try (exfalso; omega)))|refine ai rfl ?_|refine r1Y ?_|apply a_n)
  exact .int _ _
 ·have z:decide (0 ≤ bm (l.getD (k - 1) default) (l.getD k default))=false:=bw hv;rw [if_neg (fun h=>hv h.2)] at hs;have zz:=aI @ar (aI @ix (aI @iy (aI @zk @z))); repeat' (first|refine zW ?_|refine zM ?_|refine zO ?_|refine vY ?_|refine cY ?_ (hp:=by first | exact hp | exact hc) (hs:=by (first | refine ac ?_ rfl | apply af); (repeat' (first | exact ae | apply am | apply ag | exact bW _)); first | done | fail)|refine alY ?_|refine stY ?_|refine gTY ?_|refine cFY ?_|(refine zGY ?_ ?_ <;> (intro _hg; try (exfalso; omega)))|apply a_n)
  exact ⟨k + 1,by omega,⟨by omega,fun i hi=>by
   rcases ig.1 hi with h | rfl
   ·exact h2 i h
   ·exact hs⟩,ag0⟩
theorem tn (l:Spx) (hl:Shn l):Pure Try.prog 34 [av l] (.int .i64 (bL l)):=by
 refine Pure.of_c2 follows A9 (bd rfl) ?_;simp only [b34,aK];have hl':l.length ≤ 17592186044416:=hl;by_cases h0:l.length=0
 ·rw [show bL l=16 by unfold bL; rw [if_pos h0]];have zz:=@ar; repeat' (first|refine zW ?_|apply a_r|refine zO ?_|refine vZ ?_|(refine zGZ ?_ ?_ <;> (intro _hg; try (exfalso; omega)))|refine ai rfl ?_|refine r1Z ?_|apply a_n)
  all_goals exact de rfl
 by_cases h8:8 < l.length
 ·rw [show bL l=5 by unfold bL; rw [if_neg h0,if_pos h8]];have zz:=@ar; repeat' (first|refine zW ?_|apply a_r|refine zO ?_|refine vZ ?_|(refine zGZ ?_ ?_ <;> (intro _hg; try (exfalso; omega)))|refine ai rfl ?_|refine r1Z ?_|apply a_n)
  all_goals exact de rfl
 rw [show bL l=cQ (lZ l) l.length by unfold bL; rw [if_neg h0,if_neg h8]];have zz:=@ar; repeat' (first|refine zW ?_|refine zO ?_|refine vZ ?_|(refine zGZ ?_ ?_ <;> (intro _hg; try (exfalso; omega)))|apply a_n)
 refine aU (X:=Nat) (fun k=>[(0,av l),(3,.int .i64 k)]) (fun k H nx=>k ≤ l.length∧∀ i,i < k→lZ l i=0) (fun k=>l.length - k) 0 ⟨cP _,fun i h=>absurd h (by omega)⟩ ag0 ?_;rintro k H nx ⟨h1,h2⟩;by_cases hk:k < l.length
 rotate_left
 ·rw [dq fun i hi=>h2 i (by omega)];have zz:=@ar; repeat' (first|refine zW ?_|apply a_x|refine zO ?_|refine vY ?_|(refine zGY ?_ ?_ <;> (intro _hg; try (exfalso; omega)))|refine ai rfl ?_|refine r1Y ?_|apply a_n)
  exact .int _ _
 have ix:=ix2 hk;have hp:=vj (l.getD k default);have hs:=ma (l:=l) (k:=k);cases hr:eI (l.getD k default)
 ·rw [hr] at hp;rw [hr,if_pos rfl] at hs;rw [dr hk h2 (by rw [hs]; decide),hs];have zz:=aI @ar @ix; repeat' (first|refine zW ?_|apply a_r|refine zO ?_|refine vY ?_|refine cY ?_ (hp:=hp) (hs:=by (first | refine ac ?_ rfl | apply af); (repeat' (first | exact ae | apply am | apply ag | exact bW _)); first | done | fail)|refine cTY ?_|(refine zGY ?_ ?_ <;> (intro _hg; try (exfalso; omega)))|refine ai rfl ?_|refine r1Y ?_|apply a_n)
  exact .int _ _
 rw [hr] at hp;rw [hr,if_neg (by decide)] at hs;by_cases hk0:0 < k
 rotate_left
 ·rw [if_neg (fun h=>hk0 h.1)] at hs;have zk:decide (0 < (k:Int))=false:=bw (by omega);have zz:=aI @ar (aI @ix @zk); repeat' (first|refine zW ?_|refine zM ?_|refine zO ?_|refine vY ?_|refine cY ?_ (hp:=hp) (hs:=by (first | refine ac ?_ rfl | apply af); (repeat' (first | exact ae | apply am | apply ag | exact bW _)); first | done | fail)|refine gFY ?_|refine cFY ?_|(refine zGY ?_ ?_ <;> (intro _hg; try (exfalso; omega)))|apply a_n)
  exact ⟨k + 1,by omega,⟨by omega,fun i hi=>by
   rcases ig.1 hi with h | rfl
   ·exact h2 i h
   ·exact hs⟩,ag0⟩
 have zk:decide (0 < (k:Int))=true:=bD (by omega)
 have iy:ff 2 (av l) (.int .i64 ((k:Int) - 1))=some (.iptr [.int .i64 (l.getD (k - 1) default).color,.int .i64 (l.getD (k - 1) default).label] 0):=by
  have:=ix2 (l:=l) (k:=k - 1) (by omega)
  rwa [show ((k - 1:Nat):Int)=(k:Int) - 1 by omega] at this
 have hc:=n9 (l.getD (k - 1) default) (l.getD k default);by_cases hv:0 ≤ bm (l.getD (k - 1) default) (l.getD k default)
 ·have z:decide (0 ≤ bm (l.getD (k - 1) default) (l.getD k default))=true:=bD hv;rw [if_pos ⟨hk0,hv⟩] at hs;rw [dr hk h2 (by rw [hs]; decide),hs];have zz:=aI @ar (aI @ix (aI @iy (aI @zk @z))); repeat' (first|refine zW ?_|refine zM ?_|apply a_r|refine zO ?_|refine vY ?_|refine cY ?_ (hp:=by first | exact hp | exact hc) (hs:=by (first | refine ac ?_ rfl | apply af); (repeat' (first | exact ae | apply am | apply ag | exact bW _)); first | done | fail)|refine gTY ?_|refine cTY ?_|refine cFY ?_|(refine zGY ?_ ?_ <;> (intro _hg; try (exfalso; omega)))|refine ai rfl ?_|refine r1Y ?_|apply a_n)
  exact .int _ _
 ·have z:decide (0 ≤ bm (l.getD (k - 1) default) (l.getD k default))=false:=bw hv;rw [if_neg (fun h=>hv h.2)] at hs;have zz:=aI @ar (aI @ix (aI @iy (aI @zk @z))); repeat' (first|refine zW ?_|refine zM ?_|refine zO ?_|refine vY ?_|refine cY ?_ (hp:=by first | exact hp | exact hc) (hs:=by (first | refine ac ?_ rfl | apply af); (repeat' (first | exact ae | apply am | apply ag | exact bW _)); first | done | fail)|refine gTY ?_|refine cFY ?_|(refine zGY ?_ ?_ <;> (intro _hg; try (exfalso; omega)))|apply a_n)
  exact ⟨k + 1,by omega,⟨by omega,fun i hi=>by
   rcases ig.1 hi with h | rfl
   ·exact h2 i h
   ·exact hs⟩,ag0⟩
end Go.Proofs.Ytpfkjcjgdilkkaa
namespace Go.Proofs.Ytpfkjcjgdilkkaa
open Go Go.Abs
open Nat (reduceEqDiff reduceAdd reduceLeDiff)
theorem s6 (a b c d:Int):cV [.int,.int] [.int .i64 a,.int .i64 b] [.int .i64 c,.int .i64 d]=some (decide (a=c∧b=d)):=by
 have e:∀ x y:Int,(x == y)=decide (x=y):=fun x y=>rfl;by_cases h1:a=c
 ·by_cases h2:b=d
  ·subst h1 h2; simp [cV,gu]
  ·subst h1; simp only [cV,gu,if_true,e,bw h2,decide_true,h2,and_false,decide_false]
 ·simp only [cV,gu,if_true,e,bw h1,h1,false_and,decide_false]
theorem acq (a b c d:Int):jU .eql [.int,.int] [.int .i64 a,.int .i64 b] [.int .i64 c,.int .i64 d]=some (.bool (decide (a=c∧b=d))):=by
 unfold jU; rw [s6]
theorem acn (a b c d:Int):jU .neq [.int,.int] [.int .i64 a,.int .i64 b] [.int .i64 c,.int .i64 d]=some (.bool (!decide (a=c∧b=d))):=by
 unfold jU; rw [s6]
theorem hO (v w:Vtx):decide (v.color=w.color∧v.label=w.label)=decide (v=w):=decide_eq_decide.2 py.symm
theorem o5 {H:Hp} {d:Nat} {x y:AV}:dL 2 (aj H d [x,y]) (.msl d 2 2 0 1)=some (1,[x,y]):=ky (n:=2) (len:=1) (off:=0) (cs:=[x,y]) al rfl (by simp)
theorem cH {α:Type} [Inhabited α] {l:List α} {k:Nat} (h:k < l.length):l.take (k + 1)=l.take k ++ [l.getD k default]:=by
 rw [List.take_add_one]; simp [List.getD,h]
section
variable {α:Type} {K:α→α→Int} {v x:α} {l:List α}
end
def cw (a b:Spx):Bool:=a.all fun v=>decide (v ∈ b)
attribute [local irreducible] aO aq bI bM bk bx aM bA bR cz Go.Abs.Fn bK Go.Abs.Pure aQ a7 Yl
theorem AO (l:Spx) (v:Vtx) (hl:Shn l):Pure Try.prog 58 [av l,bV v] (.bool (decide (v ∈ l))):=by
 refine Pure.of_c2 follows Bd (bd rfl) ?_;simp only [b58,aK];have hl':l.length ≤ 17592186044416:=hl;have zz:=@ar; repeat' (first|refine zW ?_|refine zO ?_|refine vZ ?_|refine bxZ ?_|apply a_n)
 refine rX (fun k=>[(0,av l),(3,.ptr 0 2 0),(5,.int .i64 k)]) l.length (fun k=>l.getD k default ≠ v) (by simp (disch:=omega) only [agr,ZG,reduceEqDiff,↓reduceIte,dX,er,bU,reduceAdd]) ?_;intro k hk hz;by_cases hk2:k < l.length
 rotate_left
 ·have zz:=@ar; repeat' (first|refine zW ?_|apply a_x|refine zO ?_|refine vZ ?_|(refine zGZ ?_ ?_ <;> (intro _hg; try (exfalso; omega)))|refine ai rfl ?_|refine r1Z ?_|apply a_n)
  exact bZ (uR fun i hi=>hz i (by omega)).symm
 have ix:=ix2 hk2;have hd:=hO (l.getD k default) v;by_cases he:l.getD k default=v
 ·rw [bD he] at hd;rw [v7 hk2 he];have zz:=aI @ar (aI @ix (aI @acq @hd)); repeat' (first|refine zW ?_|apply a_r|refine zO ?_|refine vZ ?_|refine cTZ ?_|(refine zGZ ?_ ?_ <;> (intro _hg; try (exfalso; omega)))|refine ai rfl ?_|refine r1Z ?_|apply a_n)
  exact .bool _
 ·rw [bw he] at hd;have zz:=aI @ar (aI @ix (aI @acq @hd)); repeat' (first|refine zW ?_|refine zO ?_|refine vZ ?_|refine cFZ ?_|(refine zGZ ?_ ?_ <;> (intro _hg; try (exfalso; omega)))|apply a_n)
  exact ⟨hk2,he,ag0,rfl,rfl⟩
theorem vC (a b:Spx) (ha:Shn a) (hb:Shn b):Pure Try.prog 36 [av a,av b] (.bool (cw a b)):=by
 refine Pure.of_c2 follows A4 (bd rfl) ?_;simp only [b36,aK];have ha':a.length ≤ 17592186044416:=ha;have zz:=@ar; repeat' (first|refine zW ?_|refine zO ?_|refine vZ ?_|apply a_n)
 refine rX (fun k=>[(0,av a),(1,av b),(5,.int .i64 k)]) a.length (fun k=>decide (a.getD k default ∈ b)=true) ag0 ?_;intro k hk hz;by_cases hk2:k < a.length
 rotate_left
 ·have zz:=@ar; repeat' (first|refine zW ?_|apply a_x|refine zO ?_|refine vZ ?_|(refine zGZ ?_ ?_ <;> (intro _hg; try (exfalso; omega)))|refine ai rfl ?_|refine r1Z ?_|apply a_n)
  exact bZ (nu fun i hi=>hz i (by omega)).symm
 have ix:=ix2 hk2;have hh:=AO b (a.getD k default) hb;cases hm:decide (a.getD k default ∈ b)
 ·rw [hm] at hh;rw [show cw a b=false from kT hk2 hm];have zz:=aI @ar @ix; repeat' (first|refine zW ?_|apply a_r|refine zO ?_|refine vZ ?_|refine cZ ?_ (hp:=hh) (hs:=by (first | refine ac ?_ rfl | apply af); (repeat' (first | exact ae | apply am | apply ag | exact aD _ | exact bW _)); first | done | fail)|refine cTZ ?_|(refine zGZ ?_ ?_ <;> (intro _hg; try (exfalso; omega)))|refine ai rfl ?_|refine r1Z ?_|apply a_n)
  exact .bool _
 ·rw [hm] at hh;have zz:=aI @ar @ix; repeat' (first|refine zW ?_|refine zO ?_|refine vZ ?_|refine cZ ?_ (hp:=hh) (hs:=by (first | refine ac ?_ rfl | apply af); (repeat' (first | exact ae | apply am | apply ag | exact aD _ | exact bW _)); first | done | fail)|refine cFZ ?_|(refine zGZ ?_ ?_ <;> (intro _hg; try (exfalso; omega)))|apply a_n)
  exact ⟨hk2,rfl,ag0,rfl,rfl⟩
theorem ur (x y:List Spx) (hx:Shn x) (hy:Shn y) (hxs:∀ v ∈ x,Shn v) (hys:∀ v ∈ y,Shn v):Pure Try.prog 27 [ay x,ay y] (.bool (decide (x=y))):=by
 refine Pure.of_c2 follows A5 (bd rfl) ?_;simp only [b27,aK];have hx':x.length ≤ 17592186044416:=hx;have hy':y.length ≤ 17592186044416:=hy;by_cases hlen:x.length=y.length
 rotate_left
 ·have z:decide ((x.length:Int) ≠ y.length)=true:=bD (by omega);rw [bw (fun e=>hlen (by rw [e]))];have zz:=aI @ak @z; repeat' (first|refine zW ?_|apply a_r|refine zO ?_|refine vZ ?_|refine cTZ ?_|refine ai rfl ?_|refine r1Z ?_|apply a_n)
  exact .bool _
 have z:decide ((x.length:Int) ≠ y.length)=false:=bw (by omega);have zz:=aI @ak @z; repeat' (first|refine zW ?_|refine zO ?_|refine vZ ?_|refine cFZ ?_|apply a_n)
 refine aU (X:=Nat) (fun k=>[(0,ay x),(1,ay y),(5,.int .i64 k)]) (fun k H nx=>k ≤ x.length∧∀ i,i < k→x.getD i default=y.getD i default) (fun k=>x.length - k) 0 ⟨cP _,fun i h=>absurd h (by omega)⟩ ag0 ?_;rintro k H nx ⟨hk,hz⟩;by_cases hk2:k < x.length
 rotate_left
 ·have zz:=@ak; repeat' (first|refine zW ?_|apply a_x|refine zO ?_|refine vY ?_|(refine zGY ?_ ?_ <;> (intro _hg; try (exfalso; omega)))|refine ai rfl ?_|refine r1Y ?_|apply a_n)
  refine bZ ?_
  symm; rw [decide_eq_true_iff]
  refine List.ext_getElem hlen fun i h3 h4=>?_;have:=hz i (by omega);simpa [List.getD,h3,h4] using this
 have ix:=eT hk2;have iy:=eT (l:=y) (k:=k) (by omega);have hc:=xp (x.getD k default) (y.getD k default) (hxs _ (aC hk2)) (hys _ (aC (by omega)));by_cases he:x.getD k default=y.getD k default
 ·rw [bD he] at hc;have zz:=aI @ak (aI @ix @iy); repeat' (first|refine zW ?_|refine zM ?_|refine zO ?_|refine vY ?_|refine cY ?_ (hp:=hc) (hs:=by (first | refine ac ?_ rfl | apply af); (repeat' (first | exact ae | apply am | apply ag | exact aD _)); first | done | fail)|refine cFY ?_|(refine zGY ?_ ?_ <;> (intro _hg; try (exfalso; omega)))|apply a_n)
  exact ⟨k + 1,by omega,⟨by omega,fun i hi=>by
   rcases ig.1 hi with h | rfl
   ·exact hz i h
   ·exact he⟩,ag0⟩
 ·rw [bw he] at hc;rw [bw (p:=x=y) (fun e=>he (by rw [e]))];have zz:=aI @ak (aI @ix @iy); repeat' (first|refine zW ?_|refine zM ?_|apply a_r|refine zO ?_|refine vY ?_|refine cY ?_ (hp:=hc) (hs:=by (first | refine ac ?_ rfl | apply af); (repeat' (first | exact ae | apply am | apply ag | exact aD _)); first | done | fail)|refine cTY ?_|(refine zGY ?_ ?_ <;> (intro _hg; try (exfalso; omega)))|refine ai rfl ?_|refine r1Y ?_|apply a_n)
  exact .bool _
def jc (c:List Spx):Bool:=decide (c.length ≤ 30) && c.all fun s=>decide (s.length ≤ 10)
theorem xL (l:Spx) (hl:Shn l):Pure Try.prog 55 [av l] (.bool (decide (l.length ≤ 10))):=by
 refine Pure.of_c2 follows Bc (bd rfl) ?_;simp only [b55,aK];have zz:=@ar; repeat' (first|refine zW ?_|refine zO ?_|refine vZ ?_|refine ai rfl ?_|refine r1Z ?_|apply a_n)
 exact bZ (decide_eq_decide.2 (by omega))
theorem wu (c:List Spx) (hc:Shn c) (hs:∀ s ∈ c,Shn s):Pure Try.prog 33 [ay c] (.bool (jc c)):=by
 refine Pure.of_c2 follows Bv (bd rfl) ?_;simp only [b33,aK];have hc':c.length ≤ 17592186044416:=hc;unfold jc;by_cases h:c.length ≤ 30
 rotate_left
 ·have z:decide (30 < (c.length:Int))=true:=bD (by omega);rw [bw h,Bool.false_and];have zz:=aI @ak @z; repeat' (first|refine zW ?_|apply a_r|refine zO ?_|refine vZ ?_|refine cTZ ?_|refine ai rfl ?_|refine r1Z ?_|apply a_n)
  exact .bool _
 have z:decide (30 < (c.length:Int))=false:=bw (by omega);rw [bD h,Bool.true_and];have zz:=aI @ak @z; repeat' (first|refine zW ?_|refine zO ?_|refine vZ ?_|refine cFZ ?_|apply a_n)
 refine rX (fun k=>[(0,ay c),(3,.int .i64 k)]) c.length (fun k=>decide ((c.getD k default).length ≤ 10)=true) ag0 ?_;intro k hk hz;by_cases hk2:k < c.length
 rotate_left
 ·have zz:=@ak; repeat' (first|refine zW ?_|apply a_x|refine zO ?_|refine vZ ?_|(refine zGZ ?_ ?_ <;> (intro _hg; try (exfalso; omega)))|refine ai rfl ?_|refine r1Z ?_|apply a_n)
  exact bZ (nu fun i hi=>hz i (by omega)).symm
 have ix:=eT hk2;have hf:=xL (c.getD k default) (hs _ (aC hk2));cases hm:decide ((c.getD k default).length ≤ 10)
 ·rw [hm] at hf;rw [kT hk2 hm];have zz:=aI @ak @ix; repeat' (first|refine zW ?_|apply a_r|refine zO ?_|refine vZ ?_|refine cZ ?_ (hp:=hf) (hs:=by (first | refine ac ?_ rfl | apply af); (repeat' (first | exact ae | apply am | apply ag | exact aD _)); first | done | fail)|refine cTZ ?_|(refine zGZ ?_ ?_ <;> (intro _hg; try (exfalso; omega)))|refine ai rfl ?_|refine r1Z ?_|apply a_n)
  exact .bool _
 ·rw [hm] at hf;have zz:=aI @ak @ix; repeat' (first|refine zW ?_|refine zO ?_|refine vZ ?_|refine cZ ?_ (hp:=hf) (hs:=by (first | refine ac ?_ rfl | apply af); (repeat' (first | exact ae | apply am | apply ag | exact aD _)); first | done | fail)|refine cFZ ?_|(refine zGZ ?_ ?_ <;> (intro _hg; try (exfalso; omega)))|apply a_n)
  exact ⟨hk2,rfl,ag0,rfl,rfl⟩
abbrev ca (c:List Spx):AV:=.agg [ay c]
theorem bF (c:List Spx):Dat (ca c):=Dat.agg (DatL.cons (bz c) DatL.nil)
instance datI_encCx {c:List Spx}:DatI (ca c):=⟨bF c⟩
theorem xi (c:List Spx) (hc:Shn c) (hs:∀ s ∈ c,Shn s):Pure Try.prog 14 [ca c] (.bool (jc c)):=by
 refine Pure.of_c2 follows Bi (bd rfl) ?_;simp only [b14,aK];have h:=wu c hc hs;have zz:=aI @aE @ax; repeat' (first|refine zW ?_|refine zO ?_|refine vZ ?_|refine cZ ?_ (hp:=h) (hs:=by (first | refine ac ?_ rfl | apply af); (repeat' (first | exact ae | apply am | apply ag | exact bz _)); first | done | fail)|refine bxZ ?_|refine ai rfl ?_|refine r1Z ?_|apply a_n)
 exact .bool _
theorem rf (x y:List Spx) (hx:Shn x) (hy:Shn y) (hxs:∀ v ∈ x,Shn v) (hys:∀ v ∈ y,Shn v):Pure Try.prog 9 [ca x,ca y] (.bool (decide (x=y))):=by
 refine Pure.of_c2 follows is9 (bd rfl) ?_;simp only [b9,aK];have h:=ur x y hx hy hxs hys;have zz:=aI @aE @ax; repeat' (first|refine zW ?_|refine zO ?_|refine vZ ?_|refine cZ ?_ (hp:=h) (hs:=by (first | refine ac ?_ rfl | apply af); (repeat' (first | exact ae | apply am | apply ag | exact bz _)); first | done | fail)|refine bxZ ?_|refine ai rfl ?_|refine r1Z ?_|apply a_n)
 exact .bool _
end Go.Proofs.Ytpfkjcjgdilkkaa
namespace Go.Proofs.Ytpfkjcjgdilkkaa
open Go Go.Abs
theorem lK {α:Type} [Inhabited α] {l:List α} {p:α→Bool} {k:Nat} (hk:k < l.length) (h:∀ i,i < k→p (l.getD i default)=false) (hv:p (l.getD k default)=true):l.any p=true∧l.findIdx p=k:=by
 have e:l.getD k default=l[k]:=by simp [List.getD,hk]
 refine ⟨kB.2 ⟨l[k],List.getElem_mem hk,by rw [← e]; exact hv⟩,(List.findIdx_eq hk).2 ⟨by rw [← e]; exact hv,fun j hj=>by have:=h j hj; rwa [show l.getD j default=l[j] by simp [List.getD,show j < l.length by omega]] at this⟩⟩
section
attribute [local irreducible] aO aq bI bM bk bx aM bA bR cz Go.Abs.Fn bK Go.Abs.Pure aQ a7 Yl
theorem vO (l:Spx) (v:Vtx) (hl:Shn l):∃ r:Int,Pure Try.prog 47 [av l,bV v] (.int .i64 r)∧decide (0 ≤ r)=decide (v ∈ l):=by
 have hl':l.length ≤ 17592186044416:=hl;have hn:l.findIdx (fun x=>decide (x=v))=l.findIdx (fun x=>decide (x=v)):=rfl;refine ⟨if l.any (fun x=>decide (x=v)) then (l.findIdx (fun x=>decide (x=v)):Nat) else -1,?_,?_⟩
 rotate_left
 ·by_cases hm:v ∈ l
  ·rw [if_pos (kB.2 ⟨v,hm,by simp⟩),bD hm]; simp
  ·rw [if_neg,bw hm]
   ·rfl
   ·rw [kB]; rintro ⟨x,hx,e⟩;exact hm ((of_decide_eq_true e) ▸ hx)
 refine Pure.of_c2 follows AP (bd rfl) ?_;simp only [b47,aK];have zz:=@ar; repeat' (first|refine zW ?_|refine zO ?_|refine vZ ?_|refine bxZ ?_|apply a_n)
 refine aU (X:=Nat) (fun k=>[(0,av l),(3,.ptr 0 2 0),(6,av l),(7,.int .i64 l.length),(8,.int .i64 k)]) (fun k H nx=>k ≤ l.length∧H 0=some [.int .i64 v.color,.int .i64 v.label]∧∀ i,i < k→decide (l.getD i default=v)=false) (fun k=>l.length - k) 0 ⟨cP _,rfl,fun i h=>absurd h (by omega)⟩ (by (iterate 5 refine And.intro rfl ?_); trivial) ?_;rintro k H nx ⟨hk,g0,hz⟩;by_cases hk2:k < l.length
 rotate_left
 ·rw [ji fun i hi=>hz i (by omega),if_neg (by decide)]
  repeat' (first|refine zW ?_|apply a_x|refine zO ?_|refine vY ?_|(refine zGY ?_ ?_ <;> (intro _hg; try (exfalso; omega)))|refine ai rfl ?_|refine r1Y ?_|apply a_n)
  exact de rfl
 have ix:=ix2 hk2;have hd:=hO v (l.getD k default);cases hp:decide (l.getD k default=v)
 ·rw [bw (p:=v=l.getD k default) (fun h=>of_decide_eq_false hp h.symm)] at hd;have zz:=aI @ix (aI @g0 (aI @acq @hd)); repeat' (first|refine zW ?_|refine zO ?_|refine vY ?_|refine cFY ?_|(refine zGY ?_ ?_ <;> (intro _hg; try (exfalso; omega)))|apply a_n)
  exact ⟨k + 1,by omega,⟨by omega,g0,fun i hi=>by
   rcases ig.1 hi with h | rfl
   ·exact hz i h
   ·exact hp⟩,ag0⟩
 ·rw [bD (p:=v=l.getD k default) (of_decide_eq_true hp).symm] at hd;obtain ⟨e1,e2⟩:=lK (p:=fun x=>decide (x=v)) hk2 hz hp;rw [e1,e2,if_pos rfl];have zz:=aI @ix (aI @g0 (aI @acq @hd)); repeat' (first|refine zW ?_|apply a_r|refine zO ?_|refine vY ?_|refine cTY ?_|(refine zGY ?_ ?_ <;> (intro _hg; try (exfalso; omega)))|refine ai rfl ?_|refine r1Y ?_|apply a_n)
  exact .int _ _
theorem rY (l:Spx) (v:Vtx) (hl:Shn l):Pure Try.prog 21 [av l,bV v] (.bool (decide (v ∈ l))):=by
 refine Pure.of_c2 follows zq (bd rfl) ?_;simp only [b21,aK];obtain ⟨r,h,e⟩:=vO l v hl
 repeat' (first|refine zW ?_|refine zO ?_|refine vZ ?_|refine cZ ?_ (hp:=h) (hs:=by (first | refine ac ?_ rfl | apply af); (repeat' (first | exact ae | apply am | apply ag | exact aD _ | exact bW _)); first | done | fail)|refine bxZ ?_|refine ai rfl ?_|refine r1Z ?_|apply a_n)
 exact bZ e
theorem rA (x y:Spx) (hx:Shn x) (hy:Shn y):Pure Try.prog 12 [av x,av y] (.bool (decide (x=y))):=by
 refine Pure.of_c2 follows AB (bd rfl) ?_;simp only [b12,aK];have hx':x.length ≤ 17592186044416:=hx;have hy':y.length ≤ 17592186044416:=hy;by_cases hlen:x.length=y.length
 rotate_left
 ·have z:decide ((x.length:Int) ≠ y.length)=true:=bD (by omega);rw [bw (fun e=>hlen (by rw [e]))];have zz:=aI @ar @z; repeat' (first|refine zW ?_|apply a_r|refine zO ?_|refine vZ ?_|refine cTZ ?_|refine ai rfl ?_|refine r1Z ?_|apply a_n)
  exact .bool _
 have z:decide ((x.length:Int) ≠ y.length)=false:=bw (by omega);have zz:=aI @ar @z; repeat' (first|refine zW ?_|refine zO ?_|refine vZ ?_|refine cFZ ?_|apply a_n)
 refine rX (fun k=>[(0,av x),(1,av y),(11,av x),(12,.int .i64 x.length),(13,.int .i64 k)]) x.length (fun k=>x.getD k default=y.getD k default) ag0 ?_;intro k hk hz;by_cases hk2:k < x.length
 rotate_left
 ·repeat' (first|refine zW ?_|apply a_x|refine zO ?_|refine vZ ?_|(refine zGZ ?_ ?_ <;> (intro _hg; try (exfalso; omega)))|refine ai rfl ?_|refine r1Z ?_|apply a_n)
  refine bZ ?_
  symm; rw [decide_eq_true_iff]
  refine List.ext_getElem hlen fun i h3 h4=>?_;have:=hz i (by omega);simpa [List.getD,h3,h4] using this
 have ix:=ix2 hk2;have iy:=ix2 (l:=y) (k:=k) (by omega);have hd:=hO (x.getD k default) (y.getD k default);by_cases he:x.getD k default=y.getD k default
 ·rw [bD he] at hd;have zz:=aI @ix (aI @iy (aI @acn @hd)); repeat' (first|refine zW ?_|refine zO ?_|refine vZ ?_|refine cFZ ?_|(refine zGZ ?_ ?_ <;> (intro _hg; try (exfalso; omega)))|apply a_n)
  exact ⟨hk2,he,ag0,rfl,rfl⟩
 ·rw [bw he] at hd;rw [bw (p:=x=y) (fun e=>he (by rw [e]))];have zz:=aI @ix (aI @iy (aI @acn @hd)); repeat' (first|refine zW ?_|apply a_r|refine zO ?_|refine vZ ?_|refine cTZ ?_|(refine zGZ ?_ ?_ <;> (intro _hg; try (exfalso; omega)))|refine ai rfl ?_|refine r1Z ?_|apply a_n)
  exact .bool _
end
end Go.Proofs.Ytpfkjcjgdilkkaa
namespace Go.Proofs.Ytpfkjcjgdilkkaa
open Go Go.Abs
open Nat (reduceEqDiff reduceAdd reduceLeDiff)
theorem uk {l:Spx} {j:Nat} (h:j < l.length):(l.drop j).getD 0 default=l.getD j default:=by simp [List.getD,ga]
theorem sw {l:Spx} {v:Vtx} (h:∀ i,i < l.length→l.getD i default ≠ v):v ∉ l:=fun hm=>by
 obtain ⟨i,hi,e⟩:=lh hm;exact h i hi (by simp [List.getD,hi,e])
theorem aX {α:Type} [Inhabited α] {l:List α} {i:Nat} (h:i < l.length):l.getD i default ∈ l:=aC h
attribute [local irreducible] aO aq bI bM bk bx aM bA bR cz Go.Abs.Fn bK Go.Abs.Pure aQ a7 Yl
set_option maxHeartbeats 1000000 in
theorem wN (a b:Spx) (ha:cr bm a) (hb:cr bm b) (la:a.length ≤ 1000000) (lb:b.length ≤ 1000000):Pure Try.prog 40 [av a,av b] (.bool (cw a b)):=by
 refine Pure.of_c2 follows z9 (bd rfl) ?_;simp only [b40,aK];have zz:=@ar; repeat' (first|refine zW ?_|refine zO ?_|refine vZ ?_|apply a_n)
 refine aU (X:=Nat × Nat) (fun x=>[(1,av (b.drop x.2)),(7,av a),(8,.int .i64 a.length),(9,.int .i64 x.1)]) (fun x H nx=>x.1 ≤ a.length∧x.2 ≤ b.length∧(∀ i,i < x.1→decide (a.getD i default ∈ b)=true)∧∀ i m,i < x.2→x.1 ≤ m→m < a.length→b.getD i default ≠ a.getD m default) (fun x=>a.length - x.1) (0,0) ⟨cP _,cP _,fun i h=>absurd h (by omega),fun i m h=>absurd h (by omega)⟩ (by simp (disch:=omega) only [agr,ZG,reduceEqDiff,↓reduceIte,List.drop_zero]) ?_;rintro ⟨k,j⟩ H nx ⟨h1,h2,h3,h4⟩;dsimp only at h1 h2 h3 h4 ⊢;by_cases hk:k < a.length
 rotate_left
 ·repeat' (first|refine zW ?_|apply a_x|refine zO ?_|refine vY ?_|(refine zGY ?_ ?_ <;> (intro _hg; try (exfalso; omega)))|refine ai rfl ?_|refine r1Y ?_|apply a_n)
  exact bZ (nu fun i hi=>h3 i (by omega)).symm
 have ix:=ix2 hk;have hlt:∀ m,k < m→m < a.length→bm (a.getD k default) (a.getD m default) < 0:=fun m h5 h6=>eL ha h5 h6;have hkm:∀ j',(∀ i,i < j'→b.getD i default ≠ a.getD k default)→b.length ≤ j'→decide (a.getD k default ∈ b)=false:=fun j' h5 h6=>bw (sw fun i hi=>h5 i (by omega));have hall:decide (a.getD k default ∈ b)=false→cw a b=false:=fun h=>kT hk h;have hdec:=fun i=>hO (b.getD i default) (a.getD k default);have h40:=fun i hi=>h4 i k hi (aJ _) hk;generalize hv:a.getD k default=v at *;have zz:=@ix; repeat' (first|refine zW ?_|refine zO ?_|refine vY ?_|refine alY ?_|refine stY ?_|(refine zGY ?_ ?_ <;> (intro _hg; try (exfalso; omega)))|apply a_n)
 refine aU (X:=Nat) (fun j'=>[(1,av (b.drop j')),(6,.ptr nx 2 0),(7,av a),(8,.int .i64 a.length),(9,.int .i64 k)]) (fun j' H' nx'=>j' ≤ b.length∧H' nx=some [.int .i64 v.color,.int .i64 v.label]∧nx < nx'∧∀ i,i < j'→b.getD i default ≠ v) (fun j'=>b.length - j') j ⟨h2,by rw [al]; rfl,by omega,h40⟩ (by simp (disch:=omega) only [agr,ZG,reduceEqDiff,↓reduceIte,dX,er,bU,reduceAdd]) ?_;rintro j' H' nx' ⟨k1,g0,hnx,k2⟩;have hlen:(b.drop j').length=b.length - j':=List.length_drop ..;by_cases hj:j' < b.length
 rotate_left
 ·have z1:decide (0 < ((b.drop j').length:Int))=false:=bw (by omega);have z2:decide (((b.drop j').length:Int)=0)=true:=bD (by omega);rw [hall (hkm j' k2 (by omega))];have zz:=aI @ar (aI @z1 @z2); repeat' (first|refine zW ?_|apply a_x|apply a_r|refine zO ?_|refine vY ?_|refine gFY ?_|refine cTY ?_|refine cFY ?_|refine ai rfl ?_|refine r1Y ?_|apply a_n)
  exact .bool _
 have z1:decide (0 < ((b.drop j').length:Int))=true:=bD (by omega);have z2:decide (((b.drop j').length:Int)=0)=false:=bw (by omega);have iy:=ix2 (l:=b.drop j') (k:=0) (by omega);rw [uk hj,show ((0:Nat):Int)=0 from rfl] at iy;have hd:=hdec j';by_cases he:b.getD j' default=v
 ·rw [bD he] at hd;have zz:=aI @ar (aI @z1 (aI @z2 (aI @iy (aI @g0 (aI @acn @hd))))); repeat' (first|refine zW ?_|apply a_x|refine zO ?_|refine vY ?_|refine gTY ?_|refine cFY ?_|apply a_n)
  refine ⟨(k + 1,j'),by dsimp only; omega,⟨by dsimp only; omega,by dsimp only; omega,fun i hi=>?_,fun i m h5 h6 h7 e=>?_⟩,ag0⟩
  ·rcases ig.1 hi with h' | rfl
   ·exact h3 i h'
   ·rw [hv,← he]; exact bD (aX hj)
  ·have q1:=eL hb h5 hj;have q2:=hlt m (by dsimp only at h6; omega) h7;rw [e,he] at q1;exact lG.ord.asym _ _ q1 q2
 ·rw [bw he] at hd
  have hs:jD 2 (av (b.drop j')) (some (.int .i64 1)) none none=some (av (b.drop (j' + 1))):=by
   have:=pI (sz:=2) (f:=bV) (l:=b.drop j') (k:=1) (by omega);rw [List.drop_drop] at this;exact this
  have zz:=aI @ar (aI @z1 (aI @z2 (aI @iy (aI @g0 (aI @acn (aI @hd @hs)))))); repeat' (first|refine zW ?_|refine zO ?_|refine vY ?_|refine gTY ?_|refine cTY ?_|apply a_n)
  exact ⟨j' + 1,by omega,⟨by omega,g0,hnx,fun i hi=>by
   rcases ig.1 hi with h' | rfl
   ·exact k2 i h'
   ·exact he⟩,ag0⟩
end Go.Proofs.Ytpfkjcjgdilkkaa
namespace Go.Proofs.Ytpfkjcjgdilkkaa
open Go Go.Abs
structure Cmp {α:Type} (P:Program) (f:α→AV) (K:α→α→Int) (G:α→Prop) (g:Nat) (caps:List AV):Prop where
 cells:∀ x,(f x).cells=[f x]
 one:∀ x,(f x).one=true
 dat:∀ x,Dat (f x)
 dcaps:∀ x ∈ caps,Dat x
 run:∀ x y,G x→G y→Go.Abs.Pure P g (f x :: f y :: caps) (.int .i64 (K x y))
 ord:Ord K
theorem gj {α:Type} {f:α→AV} {l:List α} {k:Nat} {x:α} (h:k < l.length):bn (l.map f) k [f x]=(l.set k x).map f:=by
 simp only [bn,List.map_set,dX,er,bU];rw [List.set_eq_take_append_cons_drop,if_pos (by simpa using h)];simp
theorem ap (H:Hp) (b:Nat) (x y:List AV):aj (aj H b x) b y=aj H b y:=by
 funext i; unfold aj; split <;> rfl
theorem dZ {H:Hp} {b:Nat} {cs:List AV} (h:H b=some cs):H=aj H b cs:=by
 funext i
 by_cases e:i=b
 ·subst e; rw [al,h]
 ·rw [au e]
def dR {α:Type} [Inhabited α] (K:α→α→Int) (a i j:Nat) (M:List α):Prop:=∀ p q,a ≤ p→p < q→q ≤ i→q ≠ j→¬ K (M.getD q default) (M.getD p default) < 0
section
variable {α:Type} [Inhabited α] {f:α→AV} {K:α→α→Int} {G:α→Prop} {g:Nat} {caps:List AV}
theorem dR.start {a i:Nat} {M:List α} (h:aL K a i M):dR K a i i M:=fun p q h1 h2 h3 h4=>h p q h1 h2 (by omega)
theorem dR.done {a i j:Nat} {M:List α} (hK:Ord K) (h:dR K a i j M) (hj:j=a ∨ (a < j∧¬ K (M.getD j default) (M.getD (j - 1) default) < 0)):aL K a (i + 1) M:=by
 intro p q h1 h2 h3;by_cases e:q=j
 ·subst e;rcases hj with hj | ⟨hj,hk⟩
  ·omega
  ·by_cases e2:p=q - 1
   ·rw [e2]; exact hk
   ·exact hK.negtr _ _ _ (h p (q - 1) h1 (by omega) (by omega) (by omega)) hk
 ·exact h p q h1 h2 (by omega) e
theorem dR.step {a i j:Nat} {M:List α} (hK:Ord K) (h:dR K a i (j + 1) M) (haj:a ≤ j) (hji:j + 1 ≤ i) (hi:i < M.length) (hk:K (M.getD (j + 1) default) (M.getD j default) < 0):dR K a i j (swp M (j + 1) j):=by
 intro p q h1 h2 h3 h4;rw [c8 (by omega) (by omega),c8 (by omega) (by omega)];rw [if_neg h4];by_cases e1:q=j + 1
 ·rw [if_pos e1];by_cases e2:p=j
  ·rw [if_pos e2]; exact hK.asym _ _ hk
  ·rw [if_neg e2,if_neg (by omega)];exact h p j h1 (by omega) (by omega) (by omega)
 ·rw [if_neg e1];by_cases e2:p=j
  ·rw [if_pos e2]; exact h (j + 1) q (by omega) (by omega) h3 e1
  ·rw [if_neg e2];by_cases e3:p=j + 1
   ·rw [if_pos e3]; exact h j q (by omega) (by omega) h3 e1
   ·rw [if_neg e3]; exact h p q h1 h2 h3 e1
theorem aL.mono {a b a' b':Nat} {M:List α} (h:aL K a b M) (h1:a ≤ a') (h2:b' ≤ b):aL K a' b' M:=fun p q k1 k2 k3=>h p q (by omega) k2 (by omega)
theorem PermR.mem {a b:Nat} {L M:List α} (h:PermR a b L M) (hG:∀ x ∈ L,G x):∀ x ∈ M,G x:=fun x hx=>hG x (h.perm.mem_iff.1 hx)
attribute [local irreducible] aO aq bI bM bk bx aM bA bR cz Go.Abs.Fn bK Go.Abs.Pure aQ a7 Yl
theorem Af (hc:Cmp Try.prog f K G g caps) {L:List α} {H:Hp} {b nx n a e:Nat} (hH:H b=some (L.map f)) (hn:L.length=n) (hG:∀ x ∈ L,G x) (hae:a ≤ e) (hen:e ≤ n) (hn2:n ≤ 1000000000) :
    Abs.Fn Try.prog 72 [.msl b n 1 0 n,.int .i64 a,.int .i64 e,.func g caps] H nx fun r H' nx'=>nx'=nx∧∃ L',H'=aj H b (L'.map f)∧PermR a e L L'∧aL K a e L':=by
 refine Abs.Fn.of_c2 follows yY (bd rfl) ?_;simp only [b72,aK]
 repeat' (first|refine zW ?_|refine zO ?_|refine vZ ?_|apply a_n)
 refine aU (X:=Nat × List α) (fun x=>[(0,.msl b n 1 0 n),(1,.int .i64 a),(2,.int .i64 e),(3,.func g caps),(8,.int .i64 (x.1:Nat))]) (fun x H' nx'=>a + 1 ≤ x.1∧(x.1 ≤ e ∨ x.1=a + 1)∧H'=aj H b (x.2.map f)∧nx'=nx∧PermR a e L x.2∧aL K a x.1 x.2) (fun x=>e + 1 - x.1) (a + 1,L) ⟨aJ _,.inr rfl,dZ hH,rfl,.refl,aL.one (aJ _)⟩ ag0 ?_;rintro ⟨i,M0⟩ H' nx' ⟨h1,h2,rfl,rfl,hp0,hs0⟩;dsimp only at *;have hl0:M0.length=n:=by rw [hp0.len,hn]
 by_cases hi:i < e
 rotate_left
 ·repeat' (first|refine zW ?_|apply a_x|refine zO ?_|refine vZ ?_|(refine zGZ ?_ ?_ <;> (intro _hg; try (exfalso; omega)))|refine ai rfl ?_|apply a_n)
  exact ⟨rfl,M0,rfl,hp0,hs0.mono (aJ _) (by omega)⟩
 repeat' (first|refine zW ?_|refine zO ?_|refine vZ ?_|(refine zGZ ?_ ?_ <;> (intro _hg; try (exfalso; omega)))|apply a_n)
 refine aU (X:=Nat × List α) (fun x=>[(0,.msl b n 1 0 n),(1,.int .i64 a),(2,.int .i64 e),(3,.func g caps),(8,.int .i64 (i:Nat)),(9,.int .i64 (x.1:Nat))]) (fun x H' nxx=>a ≤ x.1∧x.1 ≤ i∧H'=aj H b (x.2.map f)∧nxx=nx'∧PermR a e L x.2∧dR K a i x.1 x.2) (fun x=>x.1) (i,M0) ⟨by omega,aJ _,rfl,rfl,hp0,.start hs0⟩ ag0 ?_;clear hp0 hs0 hl0;rintro ⟨j,M⟩ H' nxx ⟨a1,a2,rfl,rfl,hp,hal⟩;dsimp only at *;have hl:M.length=n:=by rw [hp.len,hn]
 have hGM:=hp.mem hG;by_cases hja:j=a
 ·subst hja
  repeat' (first|refine zW ?_|refine zM ?_|apply a_x|refine zO ?_|refine vZ ?_|refine gFZ ?_|(refine zGZ ?_ ?_ <;> (intro _hg; try (exfalso; omega)))|refine cFZ ?_|apply a_n)
  exact ⟨(i + 1,M),by dsimp only; omega,⟨by dsimp only; omega,.inl (by dsimp only; omega),rfl,rfl,hp,hal.done hc.ord (.inl rfl)⟩,ag0⟩
 ·obtain ⟨k,rfl⟩:∃ k,j=k + 1:=⟨j - 1,by omega⟩
  have tj:((k + 1:Nat):Int) - 1=(k:Int):=by omega
  have lc:=hc.run (M.getD (k + 1) default) (M.getD k default) (hGM _ (aC (by omega))) (hGM _ (aC (by omega)));have d1:=hc.dat (M.getD (k + 1) default);have d2:=hc.dat (M.getD k default);have dcap:=hc.dcaps;generalize hKK:K (M.getD (k + 1) default) (M.getD k default)=kk at lc;by_cases hlt:kk < 0
  ·obtain ⟨M1,hl1,lm1,lm2⟩:∃ M1:List α,M1.length=n∧bn (M.map f) (k + 1) [f (M.getD k default)]=M1.map f∧bn (M1.map f) k [f (M.getD (k + 1) default)]=(swp M (k + 1) k).map f :=
     ⟨M.set (k + 1) (M.getD k default),by simp [hl],gj (by omega),by rw [gj (by simp; omega)]; rfl⟩
   have lm3:=lm2;simp only [bn,dX,er,bU] at lm1 lm2;have zz:=aI @tj (aI @br (aI @lm1 (aI @lm2 (aI hc.cells hc.one)))); repeat' (first|refine zW ?_|refine zM ?_|refine zO ?_|refine vZ ?_|refine cZ ?_ (hp:=lc) (hs:=by (first | refine ac ?_ rfl | apply af); (repeat' (first | exact ae | apply am | apply ag | exact d1 | exact d2 | exact aw dcap)); first | done | fail)|refine stZ ?_|refine gTZ ?_|(refine zGZ ?_ ?_ <;> (intro _hg; try (exfalso; omega)))|apply a_n)
   refine ⟨(k,swp M (k + 1) k),by dsimp only; omega,⟨by dsimp only; omega,by dsimp only; omega,?_,rfl,hp.trans (PermR.swap (by omega) (by omega) (by omega)),hal.step hc.ord (by omega) (by omega) (by omega) (by rw [hKK]; exact hlt)⟩,(have zz:=@tj; agZ)⟩;dsimp only;rw [ap,ap,lm3]
  ·have zz:=aI @tj (aI @br (aI hc.cells hc.one)); repeat' (first|refine zW ?_|refine zM ?_|apply a_x|refine zO ?_|refine vZ ?_|refine cZ ?_ (hp:=lc) (hs:=by (first | refine ac ?_ rfl | apply af); (repeat' (first | exact ae | apply am | apply ag | exact d1 | exact d2 | exact aw dcap)); first | done | fail)|refine gTZ ?_|(refine zGZ ?_ ?_ <;> (intro _hg; try (exfalso; omega)))|apply a_n)
   exact ⟨(i + 1,M),by dsimp only; omega,⟨by dsimp only; omega,.inl (by dsimp only; omega),rfl,rfl,hp,hal.done hc.ord (.inr ⟨by omega,by rw [iL,hKK]; exact hlt⟩)⟩,ag0⟩
end
def Kid (p c:Nat):Prop:=c=2 * p + 1 ∨ c=2 * p + 2
def eb {α:Type} [Inhabited α] (K:α→α→Int) (a hi r:Nat) (M:List α):Prop:=∀ p c,r ≤ p→Kid p c→c < hi→¬ K (M.getD (a + p) default) (M.getD (a + c) default) < 0
structure SiftR {α:Type} [Inhabited α] (K:α→α→Int) (a hi lo root:Nat) (M:List α):Prop where
 le:lo ≤ root
 heap:∀ p c,lo ≤ p→p ≠ root→Kid p c→c < hi→¬ K (M.getD (a + p) default) (M.getD (a + c) default) < 0
 up:∀ q c,lo ≤ q→Kid q root→Kid root c→c < hi→¬ K (M.getD (a + q) default) (M.getD (a + c) default) < 0
section
variable {α:Type} [Inhabited α] {f:α→AV} {K:α→α→Int} {G:α→Prop} {g:Nat} {caps:List AV}
theorem SiftR.start {a hi lo:Nat} {M:List α} (h:eb K a hi (lo + 1) M):SiftR K a hi lo lo M :=
 ⟨aJ _,fun p c h1 h2=>h p c (by omega),fun q c h1 h2=>by unfold Kid at h2; omega⟩
theorem SiftR.leaf {a hi lo root:Nat} {M:List α} (h:SiftR K a hi lo root M) (hr:hi ≤ 2 * root + 1):eb K a hi lo M:=fun p c h1 h2 h3=>by
 by_cases e:p=root
 ·subst e; unfold Kid at h2; omega
 ·exact h.heap p c h1 e h2 h3
theorem SiftR.stop {a hi lo root c:Nat} {M:List α} (hK:Ord K) (h:SiftR K a hi lo root M) (hb:∀ d,Kid root d→d < hi→¬ K (M.getD (a + c) default) (M.getD (a + d) default) < 0) (hn:¬ K (M.getD (a + root) default) (M.getD (a + c) default) < 0):eb K a hi lo M:=fun p d h1 h2 h3=>by
 by_cases e:p=root
 ·subst e; exact hK.negtr _ _ _ (hb d h2 h3) hn
 ·exact h.heap p d h1 e h2 h3
theorem SiftR.step {a hi lo root c:Nat} {M:List α} (hK:Ord K) (h:SiftR K a hi lo root M) (hkid:Kid root c) (hc:c < hi) (hM:a + hi ≤ M.length) (hb:∀ d,Kid root d→d < hi→¬ K (M.getD (a + c) default) (M.getD (a + d) default) < 0) (hn:K (M.getD (a + root) default) (M.getD (a + c) default) < 0):SiftR K a hi lo c (swp M (a + root) (a + c)):=by
 have hrc:root < c:=by unfold Kid at hkid; omega
 have hg:∀ k,(swp M (a + root) (a + c)).getD (a + k) default=if k=c then M.getD (a + root) default else if k=root then M.getD (a + c) default else M.getD (a + k) default:=fun k=>by
  rw [c8 (by omega) (by omega)];by_cases e:k=c
  ·rw [if_pos (by omega),if_pos e]
  ·rw [if_neg (by omega),if_neg e];by_cases e2:k=root
   ·rw [if_pos (by omega),if_pos e2]
   ·rw [if_neg (by omega),if_neg e2]
 refine ⟨by have:=h.le; omega,fun p d h1 h2 h3 h4=>?_,fun q d h1 h2 h3 h4=>?_⟩
 ·rw [hg,hg,if_neg h2];by_cases e1:p=root
  ·rw [if_pos e1];subst e1;by_cases e2:d=c
   ·rw [if_pos e2]; exact hK.asym _ _ hn
   ·rw [if_neg e2,if_neg (by unfold Kid at h3; omega)]; exact hb d h3 h4
  ·rw [if_neg e1];have hdc:d ≠ c:=fun e=>by subst e; unfold Kid at h3 hkid; omega
   rw [if_neg hdc];by_cases e2:d=root
   ·rw [if_pos e2]; subst e2; exact h.up p c h1 h3 hkid hc
   ·rw [if_neg e2]; exact h.heap p d h1 e1 h3 h4
 ·have eq:q=root:=by unfold Kid at h2 hkid; omega
  subst eq;rw [hg,hg,if_neg (by omega),if_pos rfl,if_neg (by unfold Kid at h3; omega),if_neg (by unfold Kid at h3; omega)];exact h.heap c d (by omega) (by omega) h3 h4
theorem cT {M:List α} {i j:Nat} (hi:i < M.length) (hj:j < M.length):∃ M1:List α,M1.length=M.length∧bn (M.map f) i [f (M.getD j default)]=M1.map f∧bn (M1.map f) j [f (M.getD i default)]=(swp M i j).map f :=
 ⟨M.set i (M.getD j default),by simp,gj hi,by rw [gj (by simpa using hj)]; rfl⟩
theorem cu {a c:Nat}:((a:Int) + (c:Int)).toNat=a + c:=by omega
theorem fT {a c:Nat}:((a:Int) + (c:Int) + 1).toNat=a + (c + 1):=by omega
theorem w7 (hc:Cmp Try.prog f K G g caps) {L:List α} {H:Hp} {b nx n a lo hi:Nat} (hH:H b=some (L.map f)) (hn:L.length=n) (hG:∀ x ∈ L,G x) (hhi:a + hi ≤ n) (hn2:n ≤ 1000000000) (hlo:lo ≤ n) (hheap:eb K a hi (lo + 1) L) :
    Abs.Fn Try.prog 92 [.msl b n 1 0 n,.int .i64 lo,.int .i64 hi,.int .i64 a,.func g caps] H nx fun r H' nx'=>nx'=nx∧∃ L',H'=aj H b (L'.map f)∧PermR a (a + hi) L L'∧eb K a hi lo L':=by
 refine Abs.Fn.of_c2 follows Az (bd rfl) ?_;simp only [b92,aK]
 repeat' (first|refine zW ?_|refine zO ?_|refine vZ ?_|apply a_n)
 refine aU (X:=Nat × List α) (fun x=>[(0,.msl b n 1 0 n),(2,.int .i64 hi),(3,.int .i64 a),(4,.func g caps),(10,.int .i64 (x.1:Nat))]) (fun x H' nx'=>x.1 ≤ n∧H'=aj H b (x.2.map f)∧nx'=nx∧PermR a (a + hi) L x.2∧SiftR K a hi lo x.1 x.2) (fun x=>n + 1 - x.1) (lo,L) ⟨hlo,dZ hH,rfl,.refl,.start hheap⟩ ag0 ?_;rintro ⟨root,M⟩ H' nx' ⟨h0,rfl,rfl,hp,hs⟩;dsimp only at *;have hl:M.length=n:=by rw [hp.len,hn]
 have hGM:=hp.mem hG;by_cases hch:2 * root + 1 < hi
 rotate_left
 ·repeat' (first|refine zW ?_|apply a_x|refine zO ?_|refine vZ ?_|(refine zGZ ?_ ?_ <;> (intro _hg; try (exfalso; omega)))|refine ai rfl ?_|apply a_n)
  exact ⟨rfl,M,rfl,hp,hs.leaf (by omega)⟩
 have dcap:=hc.dcaps;have tch:(2:Int) * (root:Int) + 1=((2 * root + 1:Nat):Int):=by omega
 have tch2:((2 * root + 1:Nat):Int) + 1=((2 * root + 1 + 1:Nat):Int):=by omega
 have w1:IntKind.wrap .i64 (2 * (root:Int))=2 * (root:Int):=lr (by omega) (by omega)
 obtain ⟨c,hkid,hchi,hbest,hsel⟩:∃ c,Kid root c∧c < hi∧(∀ d,Kid root d→d < hi→¬ K (M.getD (a + c) default) (M.getD (a + d) default) < 0)∧((c=2 * root + 1 + 1∧K (M.getD (a + (2 * root + 1)) default) (M.getD (a + (2 * root + 1 + 1)) default) < 0) ∨ (c=2 * root + 1∧(2 * root + 1 + 1 < hi→¬ K (M.getD (a + (2 * root + 1)) default) (M.getD (a + (2 * root + 1 + 1)) default) < 0))):=by
  by_cases h2:2 * root + 1 + 1 < hi∧K (M.getD (a + (2 * root + 1)) default) (M.getD (a + (2 * root + 1 + 1)) default) < 0
  ·refine ⟨2 * root + 1 + 1,.inr rfl,h2.1,fun d hd hd2=>?_,.inl ⟨rfl,h2.2⟩⟩;rcases hd with rfl | rfl
   ·exact hc.ord.asym _ _ h2.2
   ·exact hc.ord.irr _
  ·refine ⟨2 * root + 1,.inl rfl,hch,fun d hd hd2=>?_,.inr ⟨rfl,fun h h3=>h2 ⟨h,h3⟩⟩⟩;rcases hd with rfl | rfl
   ·exact hc.ord.irr _
   ·exact fun h3=>h2 ⟨hd2,h3⟩
 have lc2:=hc.run (M.getD (a + root) default) (M.getD (a + c) default) (hGM _ (aC (by omega))) (hGM _ (aC (by omega)));have e1:=hc.dat (M.getD (a + root) default);have e2:=hc.dat (M.getD (a + c) default);generalize hK2:K (M.getD (a + root) default) (M.getD (a + c) default)=k2 at lc2;refine ef ?_;refine aZ (fun T H'' nx''=>T 0=.msl b n 1 0 n∧T 2=.int .i64 hi∧T 3=.int .i64 a∧T 4=.func g caps∧T 10=.int .i64 (root:Nat)∧T 11=.int .i64 ((2 * root + 1:Nat):Int)∧H''=aj H b (M.map f)∧nx'=nx'') ?_ ?_
 ·have zz:=aI @w1 @tch; repeat' (first|refine zO ?_|refine vZ ?_|apply a_n)
  exact ⟨rfl,rfl,rfl,rfl,rfl,rfl,rfl,rfl⟩
 rintro T _ _ ⟨t0,t2,t3,t4,t10,t11,rfl,rfl⟩;refine aZ (fun T H'' nx''=>T 0=.msl b n 1 0 n∧T 2=.int .i64 hi∧T 3=.int .i64 a∧T 4=.func g caps∧T 10=.int .i64 (root:Nat)∧T 11=.int .i64 ((2 * root + 1:Nat):Int)∧H''=aj H b (M.map f)∧nx'=nx'') ?_ ?_
 ·have zz:=aI @t0 (aI @t2 (aI @t3 (aI @t4 (aI @t10 @t11)))); repeat' (first|refine zW ?_|refine zO ?_|refine vZ ?_|(refine zGZ ?_ ?_ <;> (intro _hg; try (exfalso; omega)))|apply a_n)
  all_goals exact ⟨(have zz:=@t0; evZ),(have zz:=@t2; evZ),(have zz:=@t3; evZ),(have zz:=@t4; evZ),(have zz:=@t10; evZ),(have zz:=@t11; evZ),rfl,rfl⟩
 clear t0 t2 t3 t4 t10 t11;rintro T _ _ ⟨t0,t2,t3,t4,t10,t11,rfl,rfl⟩;refine aZ (fun T H'' nx''=>T 0=.msl b n 1 0 n∧T 2=.int .i64 hi∧T 3=.int .i64 a∧T 4=.func g caps∧T 10=.int .i64 (root:Nat)∧T 11=.int .i64 (c:Nat)∧H''=aj H b (M.map f)∧nx'=nx'') ?_ ?_
 ·by_cases h2:2 * root + 1 + 1 < hi
  ·have lc1:=hc.run (M.getD (a + (2 * root + 1)) default) (M.getD (a + (2 * root + 1 + 1)) default) (hGM _ (aC (by omega))) (hGM _ (aC (by omega)));have e3:=hc.dat (M.getD (a + (2 * root + 1)) default);have e4:=hc.dat (M.getD (a + (2 * root + 1 + 1)) default);generalize hK1:K (M.getD (a + (2 * root + 1)) default) (M.getD (a + (2 * root + 1 + 1)) default)=k1 at lc1 hsel;have hlt:decide (((2 * root + 1 + 1:Nat):Int) < (hi:Int))=true:=bD (by omega);generalize 2 * root + 1=ch at *;rcases hsel with ⟨rfl,hk1⟩ | ⟨rfl,hk1⟩
   ·have zz:=aI @t0 (aI @t2 (aI @t3 (aI @t4 (aI @t10 (aI @t11 (aI @tch2 (aI @hlt (aI @cu (aI @fT (aI hc.cells hc.one)))))))))); repeat' (first|refine zW ?_|refine zM ?_|refine zO ?_|refine vZ ?_|refine cZ ?_ (hp:=lc1) (hs:=by (first | refine ac ?_ rfl | apply af); (repeat' (first | exact ae | apply am | apply ag | exact e3 | exact e4 | exact aw dcap)); first | done | fail)|refine gTZ ?_|(refine zGZ ?_ ?_ <;> (intro _hg; try (exfalso; omega)))|apply a_n)
    all_goals exact ⟨(have zz:=@t0; evZ),(have zz:=@t2; evZ),(have zz:=@t3; evZ),(have zz:=@t4; evZ),(have zz:=@t10; evZ),(have zz:=@t11; evZ),rfl,rfl⟩
   ·have hk1:=hk1 h2;have zz:=aI @t0 (aI @t2 (aI @t3 (aI @t4 (aI @t10 (aI @t11 (aI @tch2 (aI @hlt (aI @cu (aI @fT (aI hc.cells hc.one)))))))))); repeat' (first|refine zW ?_|refine zM ?_|refine zO ?_|refine vZ ?_|refine cZ ?_ (hp:=lc1) (hs:=by (first | refine ac ?_ rfl | apply af); (repeat' (first | exact ae | apply am | apply ag | exact e3 | exact e4 | exact aw dcap)); first | done | fail)|refine gTZ ?_|(refine zGZ ?_ ?_ <;> (intro _hg; try (exfalso; omega)))|apply a_n)
    all_goals exact ⟨(have zz:=@t0; evZ),(have zz:=@t2; evZ),(have zz:=@t3; evZ),(have zz:=@t4; evZ),(have zz:=@t10; evZ),(have zz:=@t11; evZ),rfl,rfl⟩
  ·have hlt:decide (((2 * root + 1 + 1:Nat):Int) < (hi:Int))=false:=bw (by omega)
   have hcc:c=2 * root + 1:=by
    rcases hsel with ⟨rfl,_⟩ | ⟨rfl,_⟩
    ·omega
    ·rfl
   subst hcc;have zz:=aI @t0 (aI @t2 (aI @t3 (aI @t4 (aI @t10 (aI @t11 (aI @tch2 @hlt)))))); repeat' (first|refine zW ?_|refine zM ?_|refine zO ?_|refine vZ ?_|refine gFZ ?_|refine cFZ ?_|apply a_n)
   all_goals exact ⟨(have zz:=@t0; evZ),(have zz:=@t2; evZ),(have zz:=@t3; evZ),(have zz:=@t4; evZ),(have zz:=@t10; evZ),(have zz:=@t11; evZ),rfl,rfl⟩
 clear t0 t2 t3 t4 t10 t11 hsel;rintro T _ _ ⟨t0,t2,t3,t4,t10,t11,rfl,rfl⟩;by_cases hk2:k2 < 0
 ·obtain ⟨M1,hl1,lm1,lm2⟩:=cT (f:=f) (M:=M) (i:=a + root) (j:=a + c) (by omega) (by omega);have lm3:=lm2;simp only [bn,dX,er,bU] at lm1 lm2;have zz:=aI @t0 (aI @t2 (aI @t3 (aI @t4 (aI @t10 (aI @t11 (aI @cu (aI @lm1 (aI @lm2 (aI hc.cells hc.one))))))))); repeat' (first|refine zW ?_|refine zM ?_|refine zO ?_|refine vZ ?_|refine cZ ?_ (hp:=lc2) (hs:=by (first | refine ac ?_ rfl | apply af); (repeat' (first | exact ae | apply am | apply ag | exact e1 | exact e2 | exact aw dcap)); first | done | fail)|refine stZ ?_|(refine zGZ ?_ ?_ <;> (intro _hg; try (exfalso; omega)))|apply a_n)
  have hrc:root < c:=by unfold Kid at hkid; omega
  have hcn:c < n:=by omega
  refine ⟨(c,swp M (a + root) (a + c)),by dsimp only; omega,⟨by dsimp only; omega,?_,rfl,hp.trans (PermR.swap (by omega) (by omega) (by omega)),hs.step hc.ord hkid hchi (by omega) hbest (by rw [hK2]; exact hk2)⟩,(have zz:=aI @t0 (aI @t2 (aI @t3 @t4)); agZ)⟩;dsimp only;rw [ap,ap,lm3]
 ·have zz:=aI @t0 (aI @t2 (aI @t3 (aI @t4 (aI @t10 (aI @t11 (aI @cu (aI hc.cells hc.one))))))); repeat' (first|refine zW ?_|refine zM ?_|apply a_r|refine zO ?_|refine vZ ?_|refine cZ ?_ (hp:=lc2) (hs:=by (first | refine ac ?_ rfl | apply af); (repeat' (first | exact ae | apply am | apply ag | exact e1 | exact e2 | exact aw dcap)); first | done | fail)|(refine zGZ ?_ ?_ <;> (intro _hg; try (exfalso; omega)))|refine ai rfl ?_|apply a_n)
  exact ⟨rfl,M,rfl,hp,hs.stop hc.ord hbest (by rw [hK2]; exact hk2)⟩
end
end Go.Proofs.Ytpfkjcjgdilkkaa