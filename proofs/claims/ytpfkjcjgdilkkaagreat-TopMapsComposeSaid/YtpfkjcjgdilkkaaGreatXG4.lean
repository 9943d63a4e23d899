/- Texts of this claim, one after the other: AbsI2, AbsO, Code, U1, T100, T101, T102, T103, T104, T105. -/
import Derived.Test.YtpfkjcjgdilkkaaGreatXG3
import Derived.ChangeArms
import Derived.Carry
import Derived.Deep.Slices
import Derived.Lib.SmallJoins
import Derived.Test.YtpfkjcjgdilkkaaGreatProg
import Derived.KernelRfl

set_option linter.unusedSimpArgs false
set_option linter.unusedVariables false
set_option maxHeartbeats 1000000
namespace Go.Abs
open Go.RowKit
def SF:Nat:=40
abbrev CL:=FuncId→List AV→HT→Nat→Option (AV × HT × Nat)
abbrev PC:=FuncId→List AV→HT→Option AV
def Dr (cl:CL) (pc:PC) (yl:CL) (dm:DM) (i:Ins) (T:TT) (H:HT) (nx:Nat):Option (AV × HT × Nat) :=
 match ic i with
 | .val=>match dm2 dm (toT T) i with
  | true=>match br (toT T) (dA H) i with
   | some r=>some (r,H,nx)
   | none=>none
  | false=>none
 | .eff=>match dm2 dm (toT T) i with
  | true=>FM T H nx i
  | false=>none
 | .call=>match i with
  | .call f args=>match ov (toT T) f with
   | .func g caps=>match dm.isText with
    | true=>cl g (args.map (ov (toT T)) ++ caps) H nx
    | false=>match pc g (args.map (ov (toT T)) ++ caps) H with
     | some r=>some (r,H,nx)
     | none=>none
   | .bfn g fs=>match dm.isText with
    | true=>cl g (fs ++ args.map (ov (toT T))) H nx
    | false=>none
   | .yld b=>match dm.isText with
    | true=>yl b (args.map (ov (toT T))) H nx
    | false=>none
   | _=>none
  | _=>none
 | .sp=>match dm.isText with
  | true=>rsp (toT T) H nx i
  | false=>none
def ue (cl:CL) (pc:PC) (yl:CL) (dm:DM):List Op2→TT→HT→Nat→Option (TT × HT × Nat)
 | [],T,H,nx=>some (T,H,nx)
 | o :: l,T,H,nx=>match g2 (toT T) o.g with
  | none=>none
  | some false=>match stT T o.d (.tup []) with
   | some T=>ue cl pc yl dm l T H nx
   | none=>none
  | some true=>match Dr cl pc yl dm o.i T H nx with
   | none=>none
   | some (r,H,nx)=>frV r fun r=>match stT T o.d r with
    | some T=>ue cl pc yl dm l T H nx
    | none=>none
structure CLok (P:Program) (L:LV) (cl:CL) (pc:PC) (yl:CL):Prop where
 cl:∀ {g:FuncId} {args:List AV} {H H':HT} {nx nx':Nat} {r:AV} {R:AV→Hp→Nat→Prop},cl g args H nx=some (r,H',nx')→R r (toH L H') nx'→Fn P g args (toH L H) nx R
 pc:∀ {g:FuncId} {args:List AV} {H:HT} {r:AV},pc g args H=some r→lh P g args (toH L H) r
 yl:∀ {g:Nat} {args:List AV} {H H':HT} {nx nx':Nat} {r:AV} {R:AV→Hp→Nat→Prop},yl g args H nx=some (r,H',nx')→R r (toH L H') nx'→Yl P g args (toH L H) nx R
theorem zh {P:Program} {L:LV} {cl:CL} {pc:PC} {yl:CL} (hk:CLok P L cl pc yl) {dm:DM} {i:Ins} {T:TT} {H H':HT} {nx nx':Nat} {r:AV} {K:AV→Hp→Nat→Prop}
    (h:Dr cl pc yl dm i T H nx=some (r,H',nx')) (hK:K r (toH L H') nx'):bQ P dm i (toT T) (toH L H) nx K:=by
 unfold Dr at h;unfold bQ;cases hi:ic i with
 | val =>
  rw [hi] at h;simp only at h ⊢;split at h
  ·rename_i hd;split at h
   ·rename_i r' hr;cases h;exact ⟨hd,by rw [Ab cH hr]; exact hK⟩
   ·cases h
  ·cases h
 | eff =>
  rw [hi] at h;simp only at h ⊢;split at h
  ·rename_i hd;exact ⟨hd,by rw [Dc h]; exact hK⟩
  ·cases h
 | sp =>
  rw [hi] at h;simp only at h ⊢;split at h
  ·rename_i hd;exact ⟨hd,FV h hK⟩
  ·cases h
 | call =>
  rw [hi] at h;simp only at h ⊢;cases i <;> try (cases hi; done)
  rename_i f args;simp only at h ⊢;cases hf:ov (toT T) f <;> rw [hf] at h <;> simp only at h <;> try (cases h; done)
  ·rename_i g caps;left;show match dm.isText with | false=>_ | true=>_
   cases hd:dm.isText with
   | true=>rw [hd] at h; exact hk.cl h hK
   | false =>
    rw [hd] at h;simp only at h;split at h
    ·rename_i r' hr;cases h;exact ⟨_,hk.pc hr,hK⟩
    ·cases h
  ·rename_i g fs;right;cases hd:dm.isText with
   | true=>rw [hd] at h; exact ⟨rfl,.inr ⟨g,fs,rfl,hk.cl h hK⟩⟩
   | false=>rw [hd] at h; cases h
  ·rename_i b;right;cases hd:dm.isText with
   | true=>rw [hd] at h; exact ⟨rfl,.inl ⟨b,rfl,hk.yl h hK⟩⟩
   | false=>rw [hd] at h; cases h
theorem jN {P:Program} {L:LV} {cl:CL} {pc:PC} {yl:CL} (hk:CLok P L cl pc yl) {dm:DM} {K:SP}:∀ {l:List Op2} {T T':TT} {H H':HT} {nx nx':Nat},
    ue cl pc yl dm l T H nx=some (T',H',nx')→K (toT T') (toH L H') nx'→av P dm l (toT T) (toH L H) nx K
 | [],_,_,_,_,_,_,h,hK=>by cases h; exact hK
 | o :: l,T,T',H,H',nx,nx',h,hK=>by
  simp only [ue] at h;show bx (g2 (toT T) o.g) _ _;cases hg:g2 (toT T) o.g with
  | none=>rw [hg] at h; cases h
  | some b =>
   rw [hg] at h;cases b with
   | false =>
    simp only at h;split at h
    ·rename_i T1 hs;have:=jN hk h hK;rw [mD hs] at this;exact this
    ·cases h
   | true =>
    simp only at h;split at h
    ·cases h
    ·rename_i r H1 nx1 hr;simp only [oB] at h;split at h
     ·rename_i T1 hs;have:=jN hk h hK;rw [mD hs] at this;exact zh (K:=fun r H nx=>av P dm l (aP (toT T) o.d r) H nx K) hk hr this
     ·cases h
def lU (f:AV→AV→Bool):List AV→List AV→Bool
 | [],[]=>true
 | x :: l,y :: m=>match f x y with
  | true=>lU f l m
  | false=>false
 | _,_=>false
theorem qG {f:AV→AV→Bool} (h:∀ x y,f x y=true→x=y):∀ {l m:List AV},lU f l m=true→l=m
 | [],[],_=>rfl
 | [],_ :: _,h=>by cases h
 | _ :: _,[],h=>by cases h
 | x :: l,y :: m,he=>by
  simp only [lU] at he;split at he
  ·rename_i hx;rw [h _ _ hx,qG h he]
  ·cases he
def uY:Nat→AV→AV→Bool
 | 0,_,_=>false
 | k + 1,x,y=>match x with
  | .undef=>match y with
   | .undef=>true
   | _=>false
  | .bool a=>match y with
   | .bool b=>decide (a=b)
   | _=>false
  | .int j a=>match y with
   | .int i b=>decide (j=i) && decide (a=b)
   | _=>false
  | .str a=>match y with
   | .str b=>decide (a=b)
   | _=>false
  | .nilp=>match y with
   | .nilp=>true
   | _=>false
  | .nilf=>match y with
   | .nilf=>true
   | _=>false
  | .nilm=>match y with
   | .nilm=>true
   | _=>false
  | .esl=>match y with
   | .esl=>true
   | _=>false
  | .ptr b n o=>match y with
   | .ptr b' n' o'=>Nat.beq b b' && Nat.beq n n' && Nat.beq o o'
   | _=>false
  | .msl b n s o l=>match y with
   | .msl b' n' s' o' l'=>Nat.beq b b' && Nat.beq n n' && Nat.beq s s' && Nat.beq o o' && Nat.beq l l'
   | _=>false
  | .mp b=>match y with
   | .mp b'=>Nat.beq b b'
   | _=>false
  | .yld b=>match y with
   | .yld b'=>Nat.beq b b'
   | _=>false
  | .sl s l=>match y with
   | .sl s' l'=>Nat.beq s s' && lU (uY k) l l'
   | _=>false
  | .iptr l s=>match y with
   | .iptr l' s'=>Nat.beq s s' && lU (uY k) l l'
   | _=>false
  | .func s l=>match y with
   | .func s' l'=>Nat.beq s s' && lU (uY k) l l'
   | _=>false
  | .agg l=>match y with
   | .agg l'=>lU (uY k) l l'
   | _=>false
  | .tup l=>match y with
   | .tup l'=>lU (uY k) l l'
   | _=>false
  | _=>false
theorem yM:∀ (k:Nat) (x y:AV),uY k x y=true→x=y
 | 0,_,_,h=>by cases h
 | k + 1,x,y,h=>by
  have ih:∀ {l m:List AV},lU (uY k) l m=true→l=m:=fun h=>qG (yM k) h;cases x <;> simp only [uY] at h <;> (try (cases h; done)) <;> cases y <;> simp only [eL,fN] at h <;> (try (cases h; done)) <;> (try rfl)
  ·rw [h]
  ·rw [h.1,h.2]
  ·rw [h]
  ·rw [lM h.1.1,lM h.1.2,lM h.2]
  ·rw [lM h.1,ih h.2]
  ·rw [lM h.1,ih h.2]
  ·rw [lM h.1.1.1.1,lM h.1.1.1.2,lM h.1.1.2,lM h.1.2,lM h.2]
  ·rw [show _=_ from lM h.1,ih h.2]
  ·rw [lM h]
  ·rw [lM h]
  ·rw [ih h]
  ·rw [ih h]
def loadAt (T:Tm):Ins→Option Nat
 | .ld1 a=>match ov T a with
  | .ptr b _ _=>some b
  | _=>none
 | .ldn _ a=>match ov T a with
  | .ptr b _ _=>some b
  | _=>none
 | _=>none
def mA:List (Op2 × Nat)→TT→HT→List Nat→List Nat
 | [],_,_,acc=>acc
 | (o,0) :: l,T,H,acc=>match g2 (toT T) o.g with
  | some true=>match br (toT T) (dA H) o.i with
   | some r=>match stT T o.d r with
    | some T'=>match loadAt (toT T) o.i with
     | some b=>mA l T' H (b :: acc)
     | none=>mA l T' H acc
    | none=>acc
   | none=>mA l T H acc
  | _=>mA l T H acc
 | (_,_ + 1) :: l,T,H,acc=>mA l T H acc
def rz (H0 H:HT):List Nat→Bool
 | []=>true
 | b :: l=>match dA H0 b with
  | none=>rz H0 H l
  | some x=>match dA H b with
   | some y=>match lU (uY SF) x y with
    | true=>rz H0 H l
    | false=>false
   | none=>false
def qJ (H0:HT) (ids:List Nat):Hp:=fun b=>match ids.elem b with
 | true=>dA H0 b
 | false=>none
theorem rV {H0 H:HT}:∀ {ids:List Nat},rz H0 H ids=true→∀ b cs,ids.elem b=true→dA H0 b=some cs→dA H b=some cs
 | [],_,b,cs,hb,_=>by cases hb
 | a :: l,h,b,cs,hb,hc=>by
  simp only [rz] at h
  have hb':b=a ∨ l.elem b=true:=by
   rw [List.elem_cons] at hb;cases e:b == a with
   | true=>exact .inl (eq_of_beq e)
   | false=>rw [e] at hb; exact .inr hb
  split at h
  ·rename_i hn;rcases hb' with rfl | hb'
   ·rw [hn] at hc; cases hc
   ·exact rV h b cs hb' hc
  ·rename_i x hx;split at h
   ·rename_i y hy;split at h
    ·rename_i he;rcases hb' with rfl | hb'
     ·rw [hx] at hc; cases hc;rw [hy,qG (yM SF) he]
     ·exact rV h b cs hb' hc
    ·cases h
   ·cases h
theorem tL {L:LV} {H0 H:HT} {ids:List Nat} (h:rz H0 H ids=true):Sub (qJ H0 ids) (toH L H):=fun b cs hb=>by
 unfold qJ at hb;split at hb
 ·rename_i he;exact cH b cs (rV h b cs he hb)
 ·cases hb
def jE (cl:CL) (pc:PC) (yl:CL) (H0:HT) (ids:List Nat):List (Op2 × Nat)→TT→HT→Nat→Option (TT × HT × Nat)
 | [],T,H,nx=>some (T,H,nx)
 | (o,0) :: l,T,H,nx=>match g2 (toT T) o.g with
  | none=>none
  | some false=>match stT T o.d (.tup []) with
   | some T=>jE cl pc yl H0 ids l T H nx
   | none=>none
  | some true=>match br (toT T) (qJ H0 ids) o.i with
   | none=>none
   | some r=>frV r fun r=>match stT T o.d r with
    | some T=>jE cl pc yl H0 ids l T H nx
    | none=>none
 | (o,k + 1) :: l,T,H,nx=>match g2 (toT T) o.g with
  | none=>none
  | some false=>match stT T o.d (.tup []) with
   | some T=>jE cl pc yl H0 ids l T H nx
   | none=>none
  | some true=>if k=2 then (match wW (toT T) o.i with
      | none=>none
      | some r=>frV r fun r=>match stT T o.d r with
       | some T=>jE cl pc yl H0 ids l T H nx
       | none=>none)
   else match Dr cl pc yl .text o.i T H nx with
    | none=>none
    | some (r,H,nx)=>match (match k with | 0=>rz H0 H ids | _=>true) with
     | true=>frV r fun r=>match stT T o.d r with
      | some T=>jE cl pc yl H0 ids l T H nx
      | none=>none
     | false=>none
theorem ia {P:Program} {L:LV} {cl:CL} {pc:PC} {yl:CL} (hk:CLok P L cl pc yl) {H0:HT} {ids:List Nat} {K:SP}:∀ {l:List (Op2 × Nat)} {T T':TT} {H H':HT} {nx nx':Nat},
    jE cl pc yl H0 ids l T H nx=some (T',H',nx')→K (toT T') (toH L H') nx'→bt P (qJ H0 ids) l (toT T) (toH L H) nx K
 | [],_,_,_,_,_,_,h,hK=>by cases h; exact hK
 | (o,0) :: l,T,T',H,H',nx,nx',h,hK=>by
  simp only [jE] at h;show bx (g2 (toT T) o.g) _ _;cases hg:g2 (toT T) o.g with
  | none=>rw [hg] at h; cases h
  | some b =>
   rw [hg] at h;cases b with
   | false =>
    simp only at h;split at h
    ·rename_i T1 hs;have:=ia hk h hK;rw [mD hs] at this;exact this
    ·cases h
   | true =>
    simp only at h;split at h
    ·cases h
    ·rename_i r hr;simp only [oB] at h;split at h
     ·rename_i T1 hs;have:=ia hk h hK;rw [mD hs] at this;show aU (br (toT T) (qJ H0 ids) o.i) _;rw [hr]; exact this
     ·cases h
 | (o,k + 1) :: l,T,T',H,H',nx,nx',h,hK=>by
  simp only [jE] at h;show bx (g2 (toT T) o.g) _ _;cases hg:g2 (toT T) o.g with
  | none=>rw [hg] at h; cases h
  | some b =>
   rw [hg] at h;cases b with
   | false =>
    simp only at h;split at h
    ·rename_i T1 hs;have:=ia hk h hK;rw [mD hs] at this;exact this
    ·cases h
   | true =>
    simp only at h;show if k=2 then _ else _
    split at h
    ·rename_i h2;rw [if_pos h2];split at h
     ·cases h
     ·rename_i r hr;simp only [oB] at h;split at h
      ·rename_i T1 hs;have:=ia hk h hK;rw [mD hs] at this;rw [hr]; exact this
      ·cases h
    ·rename_i h2;rw [if_neg h2];split at h
     ·cases h
     ·rename_i r H1 nx1 hr;split at h
      ·rename_i hkeep;simp only [oB] at h;split at h
       ·rename_i T1 hs;have:=ia hk h hK;rw [mD hs] at this;refine zh (K:=fun r H' nx'=>(k=0→Sub (qJ H0 ids) H')∧bt P (qJ H0 ids) l (aP (toT T) o.d r) H' nx' K) hk hr ⟨fun hk0=>?_,this⟩;subst hk0;exact tL hkeep
       ·cases h
      ·cases h
def rvs (T:Tm) (H:Hp):List RV→Option (List AV)
 | []=>some []
 | a :: l=>match rv T H a with
  | some x=>match rvs T H l with
   | some xs=>some (x :: xs)
   | none=>none
  | none=>none
def F7 (T:Tm) (H:Hp):List RV→Option AV
 | []=>some (.tup [])
 | [a]=>rv T H a
 | [a,b]=>match rv T H a,rv T H b with
  | some x,some y=>some (.tup [x,y])
  | _,_=>none
 | [a,b,c]=>match rv T H a,rv T H b,rv T H c with
  | some x,some y,some z=>some (.tup [x,y,z])
  | _,_,_=>none
 | a :: b :: c :: d :: l=>(rvs T H (a :: b :: c :: d :: l)).map .tup
theorem v7 {T:Tm} {S H:Hp} (hs:Sub S H):∀ {l:List RV} {xs:List AV} {K:List AV→Prop},rvs T S l=some xs→K xs→AJ T H l K
 | [],xs,K,h,hK=>by cases h; exact hK
 | a :: l,xs,K,h,hK=>by
  simp only [rvs] at h;split at h
  ·rename_i x hx;split at h
   ·rename_i ys hy;cases h;show aU (rv T H a) _;rw [mv hs hx];exact v7 hs hy hK
   ·cases h
  ·cases h
theorem CZ {T:Tm} {S H:Hp} (hs:Sub S H) {l:List RV} {r:AV} {K:AV→Prop} (h:F7 T S l=some r) (hK:K r):cK T H K l:=by
 rcases l with _ | ⟨a,_ | ⟨b,_ | ⟨c,_ | ⟨d,l⟩⟩⟩⟩ <;> simp only [F7] at h
 ·cases h; exact hK
 ·exact r_1 (mv hs h) hK
 ·split at h
  ·rename_i x y hx hy;cases h; exact r_2 (mv hs hx) (mv hs hy) hK
  ·cases h
 ·split at h
  ·rename_i x y z hx hy hz;cases h; exact r_3 (mv hs hx) (mv hs hy) (mv hs hz) hK
  ·cases h
 ·cases ho:rvs T S (a :: b :: c :: d :: l) with
  | none=>rw [ho] at h; cases h
  | some xs =>
   rw [ho] at h;cases h;exact v7 hs ho hK
structure LFr where
 y:Nat
 ps:List Nat
 a:C2
 b:C2
 T:TT
abbrev RN:=List LFr→C2→TT→HT→Nat→Option (AEx × TT × HT × Nat)
def l5 (code:FuncId→Option F2) (rn:RN) (fr:List LFr):CL:=fun g args H nx =>
 match code g with
 | none=>none
 | some F=>if args.length ≤ F.n then match BV args with
     | none=>none
     | some T=>match rn fr F.body T H nx with
      | none=>none
      | some (e,T',H',nx')=>match e.ends with
       | true=>match F7 (toT T') (dA H') F.res with
        | some r=>frV r fun r=>some (r,H',nx')
        | none=>none
       | false=>none
  else none
def ni (code:FuncId→Option F2) (rn:RN):PC:=fun g args H =>
 match di (snapV bK SF) args with
 | some a=>match l5 code rn [] g a .leaf 0 with
  | some (v,H',_)=>snapV (dA H') SF v
  | none=>none
 | none=>match di (snapV (dA H) SF) args with
  | some a=>match l5 code rn [] g a .leaf 0 with
   | some (v,H',_)=>match snapV (dA H') SF v with
    | some r=>match r.sca with
     | true=>some r
     | false=>i7 (dA H') SF v
    | none=>none
   | none=>none
  | none=>none
def jZ (H:Hp):Nat→List AV→List Nat→List Nat
 | 0,_,acc=>acc
 | _ + 1,[],acc=>acc
 | k + 1,x :: l,acc=>match x with
  | .msl b _ _ _ _=>match acc.elem b with
   | true=>jZ H k l acc
   | false=>jZ H k ((H b).getD [] ++ l) (b :: acc)
  | .ptr b _ _=>match acc.elem b with
   | true=>jZ H k l acc
   | false=>jZ H k ((H b).getD [] ++ l) (b :: acc)
  | .sl _ cs=>jZ H k (cs ++ l) acc
  | .iptr cs _=>jZ H k (cs ++ l) acc
  | .func _ cs=>jZ H k (cs ++ l) acc
  | .agg cs=>jZ H k (cs ++ l) acc
  | .tup cs=>jZ H k (cs ++ l) acc
  | _=>jZ H k l acc
def RF2:Nat:=100000
def mb:List Nat→HT→Option HT
 | [],H=>some H
 | b :: l,H=>match PT.set LIM H b none with
  | some H=>mb l H
  | none=>none
def B7 (code:FuncId→Option F2) (rn:RN):CL:=fun g args H nx =>
 match di (snapV bK SF) args with
 | some a=>match l5 code rn [] g a .leaf 0 with
  | some (v,H',_)=>match snapV (dA H') SF v with
   | some r=>some (r,H,nx)
   | none=>none
  | none=>none
 | none=>match di (snapV (dA H) SF) args with
  | some a=>match l5 code rn [] g a .leaf 0 with
   | some (v,H',_)=>match snapV (dA H') SF v with
    | some r=>match r.sca with
     | true=>some (r,H,nx)
     | false=>match i7 (dA H') SF v with
      | some r=>some (r,H,nx)
      | none=>match mb (jZ (dA H) RF2 args []) H with
       | some H2=>match di (snapV (fun b=>match (dA H2 b).isSome with | true=>none | false=>dA H b) SF) args with
        | some a2=>match l5 code rn [] g a2 .leaf 0 with
         | some (v,H',_)=>match snapV (dA H') SF v with
          | some r=>some (r,H2,nx)
          | none=>none
         | none=>none
        | none=>none
       | none=>none
    | none=>none
   | none=>none
  | none=>none
structure CT where
 c:FuncId→List AV→Nat→Option AV
 q:FuncId→List AV→Option AV
def He:CT:=⟨fun _ _ _=>none,fun _ _=>none⟩
structure CTok (P:Program) (ct:CT):Prop where
 c:∀ (g:FuncId) (args:List AV) (nx:Nat) (r:AV),ct.c g args nx=some r→∀ (H:Hp) (R:AV→Hp→Nat→Prop),R r (ao H nx []) (nx + 1)→Fn P g args H nx R
 q:∀ (g:FuncId) (args:List AV) (r:AV),ct.q g args=some r→Pure P g args r
theorem C9 {P:Program}:CTok P He:=⟨fun _ _ _ _ h=>(by cases h),fun _ _ _ h=>(by cases h)⟩
def ya (q:FuncId→List AV→Option AV) (g:FuncId) (args:List AV) (H:HT) (nx:Nat):Option (AV × HT × Nat) :=
 match di (snapV bK SF) args with
 | some a=>match q g a with
  | some r=>some (r,H,nx)
  | none=>none
 | none=>match di (snapV (dA H) SF) args with
  | some a=>match q g a with
   | some r=>match r.sca with
    | true=>some (r,H,nx)
    | false=>match mb (jZ (dA H) RF2 args []) H with
     | some H2=>match di (snapV (fun b=>match (dA H2 b).isSome with | true=>none | false=>dA H b) SF) args with
      | some a2=>match q g a2 with
       | some r2=>some (r2,H2,nx)
       | none=>none
      | none=>none
     | none=>none
   | none=>none
  | none=>none
def pq (code:FuncId→Option F2) (pf:FuncId→Bool) (ct:CT) (rn:RN) (fr:List LFr):CL:=fun g args H nx =>
 match ct.c g args nx with
 | some r=>match PT.set LIM H nx (some (.cells [])) with
  | some H2=>some (r,H2,nx + 1)
  | none=>none
 | none=>match pf g with
  | true=>match ya ct.q g args H nx with
   | some r=>some r
   | none=>B7 code rn g args H nx
  | false=>l5 code rn fr g args H nx
def qt:List LFr→Nat→Option (LFr × List LFr)
 | [],_=>none
 | F :: l,y=>match Nat.beq F.y y with
  | true=>some (F,l)
  | false=>qt l y
def stL (T:TT):List Nat→List AV→Option TT
 | t :: ts,x :: xs=>match PT.set LIM T t (some x) with
  | some T=>stL T ts xs
  | none=>none
 | _,_=>some T
def BI:AEx→Bool
 | .normal=>true
 | _=>false
def wg (rn:RN) (fr:List LFr):CL:=fun y args H nx =>
 match qt fr y with
 | none=>none
 | some (F,l)=>match H.get y with
  | some (.mark none)=>match Nat.beq args.length F.ps.length with
   | true=>match stL F.T F.ps args with
    | none=>none
    | some T1=>match rn l F.a T1 H nx with
     | some (.normal,T2,H2,nx2)=>match H2.get y with
      | some (.mark none)=>match PT.set LIM H2 y none with
       | none=>none
       | some H3=>match rn l F.b T2 H3 nx2 with
        | none=>none
        | some (e,T4,H4,nx4)=>match e with
         | .normal=>match PT.set LIM H4 y (some (.mark none)) with
          | some H5=>some (.bool true,H5,nx4)
          | none=>none
         | e=>match PT.set LIM H4 y (some (.mark (some e))) with
          | some H5=>some (.bool false,H5,nx4)
          | none=>none
      | _=>none
     | _=>none
   | false=>none
  | _=>none
def Hu (m nx:Nat):DM:=match m with
 | 0=>.text
 | 1=>.draw
 | _=>.fresh nx
def zw (m nx:Nat):DM:=match m with
 | 1=>.draw
 | _=>.fresh nx
def wF (x:Option (TT × HT × Nat)):Option (AEx × TT × HT × Nat):=match x with
 | some (T,H,nx)=>some (.normal,T,H,nx)
 | none=>none
def run (code:FuncId→Option F2) (pf:FuncId→Bool) (ct:CT):Nat→RN
 | 0,_,_,_,_,_=>none
 | n + 1,fr,c,T,H,nx=>match c with
  | .skip=>some (.normal,T,H,nx)
  | .exit i=>some (.exit i,T,H,nx)
  | .ret=>some (.ret,T,H,nx)
  | .ops m l=>wF (ue (pq code pf ct (run code pf ct n) fr) (ni code (run code pf ct n)) (wg (run code pf ct n) fr) (Hu m nx) l T H nx)
  | .mix m l C=>match Nat.beq m 9 with
   | true=>wF (ue (pq code pf ct (run code pf ct n) fr) (ni code (run code pf ct n)) (wg (run code pf ct n) fr) .text (C.map fun k=>l.getD k ⟨none,none,.dead⟩) T H nx)
   | false=>match ue (pq code pf ct (run code pf ct n) fr) (ni code (run code pf ct n)) (wg (run code pf ct n) fr) (zw m nx) l T H nx with
    | some x=>wF (some x)
    | none=>wF (ue (pq code pf ct (run code pf ct n) fr) (ni code (run code pf ct n)) (wg (run code pf ct n) fr) .text (C.map fun k=>l.getD k ⟨none,none,.dead⟩) T H nx)
  | .mixS m l C=>match (match Nat.beq m 9 with
      | true=>none
      | false=>ue (pq code pf ct (run code pf ct n) fr) (ni code (run code pf ct n)) (wg (run code pf ct n) fr) (zw m nx) l T H nx) with
   | some x=>wF (some x)
   | none=>match rz H H (mA (C.map fun k=>(l.getD k.1 ⟨none,none,.dead⟩,k.2)) T H []) with
    | true=>wF (jE (pq code pf ct (run code pf ct n) fr) (ni code (run code pf ct n)) (wg (run code pf ct n) fr) H (mA (C.map fun k=>(l.getD k.1 ⟨none,none,.dead⟩,k.2)) T H []) (C.map fun k=>(l.getD k.1 ⟨none,none,.dead⟩,k.2)) T H nx)
    | false=>none
  | .seq a b=>match run code pf ct n fr a T H nx with
   | some (.normal,T,H,nx)=>run code pf ct n fr b T H nx
   | r=>r
  | .cond c a b=>match ov (toT T) c with
   | .bool true=>run code pf ct n fr a T H nx
   | .bool false=>run code pf ct n fr b T H nx
   | _=>none
  | .block id b=>match run code pf ct n fr b T H nx with
   | some (e,T,H,nx)=>some (kP id e,T,H,nx)
   | none=>none
  | .loop b=>match run code pf ct n fr b T H nx with
   | some (.normal,T,H,nx)=>run code pf ct n fr (.loop b) T H nx
   | r=>r
  | .rangeF g ps a b=>match ov (toT T) g with
   | .func f caps=>match qt fr nx with
    | some _=>none
    | none=>match PT.set LIM H nx (some (.mark none)) with
     | none=>none
     | some H1=>match l5 code (run code pf ct n) (⟨nx,ps,a,b,T⟩ :: fr) f (.yld nx :: caps) H1 (nx + 1) with
      | none=>none
      | some (_,H2,nx2)=>match H2.get nx with
       | some (.mark st)=>match PT.set LIM H2 nx none with
        | none=>none
        | some H3=>match st with
         | none=>some (.normal,T,H3,nx2)
         | some e=>match BI e with
          | true=>none
          | false=>some (e,T,H3,nx2)
       | _=>none
   | _=>none
def kG (P:Program) (code:FuncId→Option F2):Prop:=∀ {f:FuncId} {F:F2},code f=some F→Is P f F
def eN (P:Program) (L:LV):List LFr→Prop
 | []=>True
 | F :: fr => (∀ (args : List AV) (H' : Hp) (nx' : Nat) (K' : AV → Hp → Nat → Prop), H' F.y = some (L F.y none) → args.length = F.ps.length →
       aW P F.a (iY (toT F.T) F.ps args) H' nx' (fun e T2 H2 nx2=>bl e (H2 F.y=some (L F.y none)∧aW P F.b T2 (cw H2 F.y) nx2 fun e T3 H3 nx3=>bl e (K' (.bool true) (ao H3 F.y (L F.y none)) nx3) (K' (.bool false) (ao H3 F.y (L F.y (some e))) nx3)) False) →
       Yl P F.y args H' nx' K')∧eN P L fr
def Ee:List Nat→FuncId→Bool
 | [],_=>false
 | k :: l,f=>match Nat.beq k f with
  | true=>true
  | false=>Ee l f
theorem w6 {P:Program} {L:LV}:∀ {fr:List LFr} {y:Nat} {F:LFr} {l:List LFr},eN P L fr→qt fr y=some (F,l)→F.y=y∧eN P L (F :: l)
 | [],_,_,_,_,h=>by cases h
 | G :: fr,y,F,l,hf,h=>by
  simp only [qt] at h;split at h
  ·rename_i e;cases h;exact ⟨lM e,hf⟩
  ·exact w6 hf.2 h
theorem rH {P:Program} {L L':LV} {y:Nat} (hL:∀ b e,b ≠ y→L' b e=L b e):∀ {fr:List LFr},eN P L fr→qt fr y=none→eN P L' fr
 | [],_,_=>trivial
 | G :: fr,hf,h=>by
  simp only [qt] at h;split at h
  ·cases h
  ·rename_i e;have hne:G.y ≠ y:=fun he=>by rw [he,Nat.beq_refl] at e; cases e
   refine ⟨?_,rH hL hf.2 h⟩;have h1:∀ e,L' G.y e=L G.y e:=fun e=>hL _ _ hne;simp only [h1];exact hf.1
theorem BA:∀ {ts:List Nat} {xs:List AV} {T T':TT},stL T ts xs=some T'→toT T'=iY (toT T) ts xs
 | [],_,_,_,h=>by cases h; rfl
 | _ :: _,[],_,_,h=>by cases h; rfl
 | t :: ts,x :: xs,T,T',h=>by
  simp only [stL] at h;split at h
  ·rename_i T1 h1;rw [BA h,uJ h1];rfl
  ·cases h
structure RunOk (P:Program) (rn:RN):Prop where
 ok:∀ {L:LV} {fr:List LFr} {c:C2} {T T':TT} {H H':HT} {nx nx':Nat} {e:AEx} {K:CP},eN P L fr→rn fr c T H nx=some (e,T',H',nx')→K e (toT T') (toH L H') nx'→aW P c (toT T) (toH L H) nx K
theorem eP {P:Program} {code:FuncId→Option F2} (hc:kG P code) {rn:RN} (hr:RunOk P rn) {L:LV} {fr:List LFr} (hf:eN P L fr) {g:FuncId} {args:List AV} {H H':HT} {nx nx':Nat} {r:AV}
    (h:l5 code rn fr g args H nx=some (r,H',nx')):∃ F,Is P g F∧args.length ≤ F.n∧∀ K:AV→Hp→Nat→Prop,K r (toH L H') nx'→aW P F.body (T0 args) (toH L H) nx fun e T H nx=>bB e.ends (cK T H (fun x=>K x H nx) F.res):=by
 unfold l5 at h;split at h
 ·cases h
 ·rename_i F hF;split at h
  ·rename_i hl;split at h
   ·cases h
   ·rename_i T hT;split at h
    ·cases h
    ·rename_i e T' H1 nx1 hrun;split at h
     ·rename_i he;split at h
      ·rename_i r1 hres;simp only [oB] at h;cases h;refine ⟨F,hc hF,hl,fun K hK=>?_⟩;rw [← zR hT];exact hr.ok hf hrun ⟨he,CZ cH hres hK⟩
      ·cases h
     ·cases h
  ·cases h
def L0:LV:=fun _ _=>[]
theorem BD {P:Program} {code:FuncId→Option F2} (hm:P.follows .mixedOrders=true) (hc:kG P code) {rn:RN} (hr:RunOk P rn) {L:LV} {g:FuncId} {args:List AV} {H:HT} {r:AV} (h:ni code rn g args H=some r):lh P g args (toH L H) r:=by
    have hf0:eN P L0 []:=trivial;have n0:Sub bK bK:=fun _ _ h=>h;unfold ni at h;split at h
    ·rename_i a ha;split at h
     ·rename_i v H' nx' hcall;obtain ⟨F,h1,h2,h3⟩:=eP hc hr hf0 hcall;have hp:Pure P g a r:=Pure.of_c2 hm h1 h2 (h3 (fun x H _=>Snap H x r) (dF cH _ h));obtain ⟨o1,o2⟩:=db ha;exact hp.callOk (.inl ⟨o1,fun i x y hx hy=>dF n0 _ (o2 i x y hx hy)⟩)
     ·cases h
    ·split at h
     ·rename_i a ha;obtain ⟨o1,o2⟩:=db ha;have hs:bg (toH L H) args a:=⟨o1,fun i x y hx hy=>dF cH _ (o2 i x y hx hy)⟩
      split at h
      ·rename_i v H' nx' hcall;obtain ⟨F,h1,h2,h3⟩:=eP hc hr hf0 hcall;split at h
       ·rename_i r1 hr1;split at h
        ·rename_i hsc;cases h;have hp:Pure P g a r:=Pure.of_c2 hm h1 h2 (h3 (fun x H _=>Snap H x r) (dF cH _ hr1));exact hp.callOk (.inr ⟨hs,hsc⟩)
        ·have hp:gV P g a r:=gV.of_c2 hm h1 h2 (h3 (fun x H _=>SnapF H x r) (oN cH _ h));exact hp.callOk hs
       ·cases h
      ·cases h
     ·cases h
theorem ma:∀ {l:List Nat} {H H2:HT},mb l H=some H2→∀ {b:Nat} {c:BC},H2.get b=some c→H.get b=some c
 | [],_,_,h,_,_,hb=>by cases h; exact hb
 | b :: l,H,H2,h,b',c,hb=>by
  simp only [mb] at h;split at h
  ·rename_i H1 h1;have:=ma h hb;rw [PT.get_set _ h1] at this;split at this
   ·cases this
   ·exact this
  ·cases h
theorem jr {L:LV}:∀ {l:List Nat} {H H2:HT},mb l H=some H2→∀ b cs,toH L H2 b=some cs→toH L H b=some cs
 | [],_,_,h=>by cases h; exact fun _ _ h=>h
 | b :: l,H,H2,h=>by
  simp only [mb] at h;split at h
  ·rename_i H1 h1;intro b' cs hb;have:=jr h b' cs hb;rw [tW h1] at this;exact (lD this).2
  ·cases h
theorem Co {P:Program} {code:FuncId→Option F2} (hm:P.follows .mixedOrders=true) (hc:kG P code) {rn:RN} (hr:RunOk P rn) {L:LV} {g:FuncId} {args:List AV} {H H2:HT} {nx nx':Nat} {r:AV} {R:AV→Hp→Nat→Prop} (h:B7 code rn g args H nx=some (r,H2,nx')) (hR:R r (toH L H2) nx'):Fn P g args (toH L H) nx R:=by
 have hf0:eN P L0 []:=trivial;have n0:Sub bK bK:=fun _ _ h=>h;unfold B7 at h;split at h
 ·rename_i a ha;split at h
  ·rename_i v H' nx1 hcall;split at h
   ·rename_i r1 hr1;cases h;obtain ⟨F,h1,h2,h3⟩:=eP hc hr hf0 hcall;have hp:Pure P g a r:=Pure.of_c2 hm h1 h2 (h3 (fun x H _=>Snap H x r) (dF cH _ hr1));obtain ⟨o1,o2⟩:=db ha;exact Fn.of_pure hp (.inl ⟨o1,fun i x y hx hy=>dF n0 _ (o2 i x y hx hy)⟩) hR
   ·cases h
  ·cases h
 ·split at h
  ·rename_i a ha;obtain ⟨o1,o2⟩:=db ha;have hs:bg (toH L H) args a:=⟨o1,fun i x y hx hy=>dF cH _ (o2 i x y hx hy)⟩
   split at h
   ·rename_i v H' nx1 hcall;obtain ⟨F,h1,h2,h3⟩:=eP hc hr hf0 hcall;split at h
    ·rename_i r1 hr1;split at h
     ·rename_i hsc;cases h;have hp:Pure P g a r:=Pure.of_c2 hm h1 h2 (h3 (fun x H _=>Snap H x r) (dF cH _ hr1));exact Fn.of_pure hp (.inr ⟨hs,hsc⟩) hR
     ·split at h
      ·rename_i r2 hr2;cases h;have hp:gV P g a r:=gV.of_c2 hm h1 h2 (h3 (fun x H _=>SnapF H x r) (oN cH _ hr2));exact Fn.of_callOk (hp.callOk hs) hR
      ·split at h
       ·rename_i H3 cw;split at h
        ·rename_i a2 ha2;obtain ⟨q1,q2⟩:=db ha2;split at h
         ·rename_i v2 H4 nx4 hcall2;obtain ⟨F2,k1,k2,k3⟩:=eP hc hr hf0 hcall2;split at h
          ·rename_i r2 hr2;cases h;have hp:Pure P g a2 r:=Pure.of_c2 hm k1 k2 (k3 (fun x H _=>Snap H x r) (dF cH _ hr2));have hsubF:Sub (fun b=>match (dA H2 b).isSome with | true=>none | false=>dA H b) (fun b=>match (dA H2 b).isSome with | true=>none | false=>dA H b):=fun _ _ h=>h;refine Fn.of_pureZ (Hf:=fun b=>match (dA H2 b).isSome with | true=>none | false=>dA H b) hp (fun b cs hb=>?_) (fun b cs hb=>⟨jr cw b cs hb,?_⟩) ⟨q1,fun i x y hx hy=>dF hsubF _ (q2 i x y hx hy)⟩ hR
           ·split at hb
            ·cases hb
            ·exact cH b cs hb
           ·split
            ·rfl
            ·rename_i hn;have:=jr cw b cs hb;unfold dA at hn ⊢;unfold toH at hb this;cases hg:H2.get b with
             | none=>rw [hg] at hb; cases hb
             | some c =>
              cases c with
              | cells cs'=>rw [hg] at hn; cases hn
              | mark e =>
               cases hg2:H.get b with
               | none=>rfl
               | some c2=>cases c2 with
                | mark e2=>rfl
                | cells cs2=>exact absurd (ma cw hg) (by rw [hg2]; intro h; cases h)
          ·cases h
         ·cases h
        ·cases h
       ·cases h
    ·cases h
   ·cases h
  ·cases h
theorem Ar {P:Program} {q:FuncId→List AV→Option AV} (hq:∀ (g:FuncId) (args:List AV) (r:AV),q g args=some r→Pure P g args r) {L:LV} {g:FuncId} {args:List AV} {H H2:HT} {nx nx':Nat} {r:AV} {R:AV→Hp→Nat→Prop} (h:ya q g args H nx=some (r,H2,nx')) (hR:R r (toH L H2) nx'):Fn P g args (toH L H) nx R:=by
 have n0:Sub bK bK:=fun _ _ h=>h;unfold ya at h;split at h
 ·rename_i a ha;split at h
  ·rename_i r1 hr1;cases h;obtain ⟨o1,o2⟩:=db ha;exact Fn.of_pure (hq _ _ _ hr1) (.inl ⟨o1,fun i x y hx hy=>dF n0 _ (o2 i x y hx hy)⟩) hR
  ·cases h
 ·split at h
  ·rename_i a ha;obtain ⟨o1,o2⟩:=db ha;have hs:bg (toH L H) args a:=⟨o1,fun i x y hx hy=>dF cH _ (o2 i x y hx hy)⟩
   split at h
   ·rename_i r1 hr1;split at h
    ·rename_i hsc;cases h;exact Fn.of_pure (hq _ _ _ hr1) (.inr ⟨hs,hsc⟩) hR
    ·split at h
     ·rename_i H3 cw;split at h
      ·rename_i a2 ha2;obtain ⟨q1,q2⟩:=db ha2;split at h
       ·rename_i r2 hr2;cases h;have hsubF:Sub (fun b=>match (dA H2 b).isSome with | true=>none | false=>dA H b) (fun b=>match (dA H2 b).isSome with | true=>none | false=>dA H b):=fun _ _ h=>h;refine Fn.of_pureZ (Hf:=fun b=>match (dA H2 b).isSome with | true=>none | false=>dA H b) (hq _ _ _ hr2) (fun b cs hb=>?_) (fun b cs hb=>⟨jr cw b cs hb,?_⟩) ⟨q1,fun i x y hx hy=>dF hsubF _ (q2 i x y hx hy)⟩ hR
        ·split at hb
         ·cases hb
         ·exact cH b cs hb
        ·split
         ·rfl
         ·rename_i hn;have:=jr cw b cs hb;unfold dA at hn ⊢;unfold toH at hb this;cases hg:H2.get b with
          | none=>rw [hg] at hb; cases hb
          | some c =>
           cases c with
           | cells cs'=>rw [hg] at hn; cases hn
           | mark e =>
            cases hg2:H.get b with
            | none=>rfl
            | some c2=>cases c2 with
             | mark e2=>rfl
             | cells cs2=>exact absurd (ma cw hg) (by rw [hg2]; intro h; cases h)
       ·cases h
      ·cases h
     ·cases h
   ·cases h
  ·cases h
theorem Bv {P:Program} {code:FuncId→Option F2} {pf:FuncId→Bool} {ct:CT} (hm:P.follows .mixedOrders=true) (hc:kG P code) (hct:CTok P ct) {rn:RN} (hr:RunOk P rn) {L:LV} {fr:List LFr} (hf:eN P L fr):CLok P L (pq code pf ct rn fr) (ni code rn) (wg rn fr) where
 cl:=fun {g args H H' nx nx' r R} h hR=>by
  unfold pq at h;split at h
  ·rename_i hx;split at h
   ·rename_i hset;cases h;rw [gq hset] at hR;exact hct.c _ _ _ _ hx _ _ hR
   ·cases h
  split at h
  ·split at h
   ·rename_i hq;cases h;exact Ar hct.q hq hR
   ·exact Co hm hc hr h hR
  ·obtain ⟨F,h1,h2,h3⟩:=eP hc hr hf h;exact Fn.of_c2 hm h1 h2 (h3 _ hR)
 pc:=fun {g args H r} h=>BD hm hc hr h
 yl:=fun {y args H H' nx nx' r R} h hR=>by
  unfold wg at h;split at h
  ·cases h
  ·rename_i F l hF;obtain ⟨rfl,hfr⟩:=w6 hf hF;obtain ⟨hy,hl⟩:=hfr;split at h
   ·rename_i hg;split at h
    ·rename_i hlen;split at h
     ·cases h
     ·rename_i T1 hT1;split at h
      ·rename_i T2 H2 nx2 hrun;split at h
       ·rename_i hg2;split at h
        ·cases h
        ·rename_i H3 hdel3;split at h
         ·cases h
         ·rename_i e T4 H4 nx4 hrun2;refine hy args (toH L H) nx R (by simp only [toH,hg,bcL]) (lM hlen) ?_;rw [← BA hT1];refine hr.ok (K:=fun e T2 H2 nx2=>bl e (H2 F.y=some (L F.y none)∧aW P F.b T2 (cw H2 F.y) nx2 fun e T3 H3 nx3=>bl e (R (.bool true) (ao H3 F.y (L F.y none)) nx3) (R (.bool false) (ao H3 F.y (L F.y (some e))) nx3)) False) hl hrun ⟨by simp only [toH,hg2,bcL],?_⟩;rw [← tW hdel3];refine hr.ok hl hrun2 ?_;cases e with
          | normal =>
           simp only at h;split at h
           ·rename_i H5 h5;cases h;rw [nf h5] at hR;exact hR
           ·cases h
          | exit i =>
           simp only at h;split at h
           ·rename_i H5 h5;cases h;rw [nf h5] at hR;exact hR
           ·cases h
          | ret =>
           simp only at h;split at h
           ·rename_i H5 h5;cases h;rw [nf h5] at hR;exact hR
           ·cases h
       ·cases h
      ·cases h
    ·cases h
   ·cases h
theorem lw {x:Option (TT × HT × Nat)} {e:AEx} {T:TT} {H:HT} {nx:Nat} (h:wF x=some (e,T,H,nx)):x=some (T,H,nx)∧e=.normal:=by
 unfold wF at h;split at h
 ·cases h; exact ⟨rfl,rfl⟩
 ·cases h
theorem Bu {P:Program} {code:FuncId→Option F2} {pf:FuncId→Bool} {ct:CT} (hm:P.follows .mixedOrders=true) (hc:kG P code) (hct:CTok P ct):∀ n,RunOk P (run code pf ct n)
 | 0=>⟨fun _ h=>by cases h⟩
 | n + 1=>by
  refine ⟨?_⟩;intro L fr c T T' H H' nx nx' e K hf h hK;have ih:RunOk P (run code pf ct n):=Bu hm hc hct n;have hk:=Bv (pf:=pf) (ct:=ct) hm hc hct ih hf;cases c with
  | skip=>cases h; exact hK
  | exit i=>cases h; exact hK
  | ret=>cases h; exact hK
  | ops m l =>
   obtain ⟨h1,rfl⟩:=lw h;have:=jN hk (K:=K .normal) h1 hK;refine ⟨_,_,_,_,Gh.refl _ _ _,?_⟩;unfold Hu at this;exact this
  | mix m l C =>
   simp only [run] at h;split at h
   ·obtain ⟨h1,rfl⟩:=lw h;exact .inr ⟨_,_,_,_,Gh.refl _ _ _,jN hk (K:=K .normal) h1 hK⟩
   ·rename_i hb;split at h
    ·rename_i x hx;obtain ⟨h1,rfl⟩:=lw h;cases h1;have:=jN hk (K:=K .normal) hx hK;refine .inl ⟨fun e=>?_,_,_,_,_,Gh.refl _ _ _,?_⟩
     ·subst e; cases hb
     ·unfold zw at this; exact this
    ·obtain ⟨h1,rfl⟩:=lw h;exact .inr ⟨_,_,_,_,Gh.refl _ _ _,jN hk (K:=K .normal) h1 hK⟩
  | mixS m l C =>
   simp only [run] at h;split at h
   ·rename_i x hx;split at hx
    ·cases hx
    ·rename_i hb;obtain ⟨h1,rfl⟩:=lw h;cases h1;have:=jN hk (K:=K .normal) hx hK;refine .inl ⟨fun e=>?_,_,_,_,_,Gh.refl _ _ _,?_⟩
     ·subst e; cases hb
     ·unfold zw at this; exact this
   ·split at h
    ·rename_i hkeep;obtain ⟨h1,rfl⟩:=lw h;exact .inr ⟨_,_,_,_,_,Gh.refl _ _ _,tL hkeep,ia hk (K:=K .normal) h1 hK⟩
    ·cases h
  | seq a b =>
   simp only [run] at h;split at h
   ·rename_i T1 H1 nx1 h1;exact ef (ih.ok (K:=fun e T H nx=>bl e (aW P b T H nx K) (K e T H nx)) hf h1 (ih.ok hf h hK))
   ·rename_i hne;refine ef (ih.ok (K:=fun e T H nx=>bl e (aW P b T H nx K) (K e T H nx)) hf h ?_);cases e with
    | normal=>exact absurd h (hne _ _ _)
    | exit i=>exact hK
    | ret=>exact hK
  | cond c a b =>
   simp only [run] at h;split at h
   ·rename_i hv;exact uB hv (ih.ok hf h hK)
   ·rename_i hv;exact uP hv (ih.ok hf h hK)
   ·cases h
  | block id b =>
   simp only [run] at h;split at h
   ·rename_i e1 T1 H1 nx1 h1;cases h;exact ff (ih.ok (K:=fun e T H nx=>K (kP id e) T H nx) hf h1 hK)
   ·cases h
  | loop b =>
   simp only [run] at h;split at h
   ·rename_i T1 H1 nx1 h1;obtain ⟨k,hl⟩:=ih.ok hf h hK;exact ⟨k + 1,_,_,_,_,Gh.refl _ _ _,ih.ok (K:=fun e T H nx=>bl e (pe (aW P b) K k T H nx) (K e T H nx)) hf h1 hl⟩
   ·rename_i hne;refine ⟨1,_,_,_,_,Gh.refl _ _ _,ih.ok (K:=fun e T H nx=>bl e (pe (aW P b) K 0 T H nx) (K e T H nx)) hf h ?_⟩;cases e with
    | normal=>exact absurd h (hne _ _ _)
    | exit i=>exact hK
    | ret=>exact hK
  | rangeF g ps a b =>
   simp only [run] at h;split at h
   ·rename_i f caps hg;split at h
    ·cases h
    ·rename_i hnone;split at h
     ·cases h
     ·rename_i H1 hset;split at h
      ·cases h
      ·rename_i v H2 nx2 hcall;split at h
       ·rename_i st hst;split at h
        ·cases h
        ·rename_i H3 hdel3;refine xl hg fun c0 cj hy=>?_
         let L':LV:=fun b e=>if b=nx then (match e with | none=>[c0] | some e=>[cj e]) else L b e
         have hL:∀ b e,b ≠ nx→L' b e=L b e:=fun b e hb=>if_neg hb;have hn:L' nx none=[c0]:=if_pos rfl;have hs:∀ e,L' nx (some e)=[cj e]:=fun e=>if_pos rfl
         have hf':eN P L' (⟨nx,ps,a,b,T⟩ :: fr):=by
          refine ⟨?_,rH hL hf hnone⟩;intro args H' nx' K' h1 h2 h3;simp only [hn,hs] at h1 h3;exact hy args H' nx' K' h1 h2 h3
         have e1:ao (toH L H) nx [c0]=toH L' H1:=by
          rw [nf hset,hn]
          funext m
          simp only [ao];split
          ·rfl
          ·rename_i hm;simp only [toH];cases H.get m with
           | none=>rfl
           | some x=>cases x with
            | cells cs=>rfl
            | mark e=>simp only [bcL,hL m e hm]
         have e2:cw (toH L' H2) nx=toH L H3:=by
          rw [tW hdel3]
          funext m
          simp only [cw];split
          ·rfl
          ·rename_i hm;simp only [toH];cases H2.get m with
           | none=>rfl
           | some x=>cases x with
            | cells cs=>rfl
            | mark e=>simp only [bcL,hL m e hm]
         rw [e1];obtain ⟨F,k1,k2,k3⟩:=eP hc ih hf' hcall;refine Fn.of_c2 hm k1 k2 (k3 _ ?_);cases st with
         | none =>
          cases h;left;refine ⟨by simp only [toH,hst,bcL,hn],?_⟩;rw [e2]; exact hK
         | some e1' =>
          simp only at h;split at h
          ·cases h
          ·rename_i hnn;cases h;right;refine ⟨e,(fun hh=>by rw [hh] at hnn; cases hnn),by simp only [toH,hst,bcL,hs],?_⟩;rw [e2]; exact hK
       ·cases h
   ·cases h
def Fq (code:FuncId→Option F2) (pf:FuncId→Bool) (ct:CT) (n:Nat) (f:FuncId) (args:List AV) (good:AV→Bool):Bool :=
 match l5 code (run code pf ct n) [] f args .leaf 0 with
 | some (v,H',_)=>match snapV (dA H') SF v with
  | some r=>good r
  | none=>false
 | none=>false
theorem Pure.of_runC {P:Program} {code:FuncId→Option F2} {pf:FuncId→Bool} {ct:CT} (hm:P.follows .mixedOrders=true) (hc:kG P code) (hct:CTok P ct) {n:Nat} {f:FuncId} {args:List AV} {good:AV→Bool} {r:AV} (h:Fq code pf ct n f args good=true) (hg:∀ x,good x=true→x=r):Pure P f args r:=by
 unfold Fq at h;split at h
 ·rename_i v H' nx' hcall;split at h
  ·rename_i r1 hr1;have:=hg _ h;subst this;obtain ⟨F,h1,h2,h3⟩:=eP hc (Bu hm hc hct n) (L:=L0) (fr:=[]) trivial hcall;exact Pure.of_c2 hm h1 h2 (h3 (fun x H _=>Snap H x r1) (dF cH _ hr1))
  ·cases h
 ·cases h
theorem Pure.of_run {P:Program} {code:FuncId→Option F2} {pf:FuncId→Bool} (hm:P.follows .mixedOrders=true) (hc:kG P code) {n:Nat} {f:FuncId} {args:List AV} {good:AV→Bool} {r:AV} (h:Fq code pf He n f args good=true) (hg:∀ x,good x=true→x=r):Pure P f args r :=
 Pure.of_runC hm hc C9 h hg
def isTrue:AV→Bool | .bool true=>true | _=>false
theorem zS:∀ x,isTrue x=true→x=.bool true:=by
 intro x h;cases x <;> try (cases h; done)
 rename_i b;cases b
 ·cases h
 ·rfl
def lookup:List (Nat × F2)→FuncId→Option F2
 | [],_=>none
 | (k,F) :: l,f=>match Nat.beq k f with
  | true=>some F
  | false=>lookup l f
theorem z8 {P:Program}:kG P (lookup []):=fun h=>by cases h
theorem ax {P:Program} {k:Nat} {F:F2} {l:List (Nat × F2)} (h:Is P k F) (hs:kG P (lookup l)):kG P (lookup ((k,F) :: l)):=fun {f F'} hf=>by
 simp only [lookup] at hf;split at hf
 ·rename_i e;cases hf;rw [lM e] at h;exact h
 ·exact hs hf
end Go.Abs
namespace Go.Abs
open Go Go.RowKit
def sw (W:World):Nat→Prop:=fun b=>b < W.heap.size
theorem AA {W:World} {a:Addr} {v:Value} (h:W.cell? a=some v):sw W a.block∧a.spot=none:=by
 unfold World.cell? at h;unfold sw;cases hb:W.heap[a.block]? with
 | none=>simp [hb] at h
 | some o =>
  refine ⟨(gL.1 hb).1,?_⟩;cases hs:a.spot with
  | none=>rfl
  | some s=>cases o <;> simp [hb,hs] at h
section
variable {H:Type} {enc:TypeId × Value→H} {P:Program} {W:World}
def eo (enc:TypeId × Value→H) (P:Program) (W:World) (t:TypeId) {α:Type} (f:α→AV) (good:α→Prop):Prop :=
 ∀ (n:Nat) (cs:List Value) (x:DataW H × List MemPlace),DataW.trod enc P W 0 (fun _=>true) true n t cs=some x→(∀ k ∈ x.1.weights P t,k ≤ reachBytes)→∃ a:α,good a∧du (E0 (sw W)) W (f a).cells cs
theorem eo.mono {t:TypeId} {α:Type} {f:α→AV} {good good':α→Prop} (h:eo enc P W t f good) (hg:∀ a,good a→good' a):eo enc P W t f good' :=
 fun n cs x hx hw=>let ⟨a,h1,h2⟩:=h n cs x hx hw; ⟨a,hg a h1,h2⟩
theorem qe {E:Env} {w:World} {x:AV} {y:Value} (h:Rel E w x y):du E w [x] [y]:=⟨rfl,fun i a b ha hb=>by
 cases i with
 | zero=>simp at ha hb; subst ha hb; exact h
 | succ i=>simp at ha⟩
theorem du.app {E:Env} {w:World} {xs xs':List AV} {ys ys':List Value} (h:du E w xs ys) (h':du E w xs' ys'):du E w (xs ++ xs') (ys ++ ys'):=by
 have hl:xs.length=ys.length:=h.1.symm;refine ⟨by simp [h.1,h'.1],fun i a b ha hb=>?_⟩;by_cases hi:i < xs.length
 ·rw [fY hi] at ha;rw [fY (by omega)] at hb;exact h.2 i a b ha hb
 ·rw [gJ (by omega)] at ha;rw [gJ (by omega)] at hb;rw [hl] at ha;exact h'.2 _ a b ha hb
theorem tF {t:TypeId} {k:IntKind} (ht:P.underlying t=some (.int k)):eo enc P W t (AV.int k) (fun n=>(Lit.int k n).wf=true):=fun n cs x hx _=>by
 obtain ⟨a,rfl,rfl,hw⟩:=DataW.trod_int ht hx;exact ⟨a,hw,qe (.int _ _)⟩
theorem rG {e:TypeId} {l:List (DataW H)} {d:DataW H} (h:d ∈ l) {k:Nat} (hk:k ∈ d.weights P e):k ∈ DataW.weightsAll P e l:=by
 induction l with
 | nil=>cases h
 | cons a l ih =>
  unfold DataW.weightsAll;rcases e9.1 h with rfl | h
  ·exact sC _ hk
  ·exact so _ (ih h)
theorem we {α:Type} {len:Nat} {Q:Nat→α→Prop} (h:∀ i,i < len→∃ a,Q i a):∃ l:List α,l.length=len∧∀ i a,l[i]?=some a→Q i a:=by
 induction len with
 | zero=>exact ⟨[],rfl,fun i a h=>by simp at h⟩
 | succ n ih =>
  obtain ⟨l,h1,h2⟩:=ih (fun i hi=>h i (by omega));obtain ⟨a,ha⟩:=h n (by omega);refine ⟨l ++ [a],by simp [h1],fun i b hb=>?_⟩;by_cases hi:i < l.length
  ·rw [fY hi] at hb; exact h2 i b hb
  ·rw [gJ (by omega)] at hb
   have:i - l.length=0:=by
    by_cases h0:i - l.length=0
    ·exact h0
    ·rw [List.getElem?_eq_none (by simp; omega)] at hb; cases hb
   rw [this] at hb; simp at hb; subst hb;have:i=n:=by omega
   subst this; exact ha
theorem kU {t e:TypeId} {sz by_:Nat} {α:Type} {f:α→AV} {good:α→Prop} (ht:P.underlying t=some (.slice e)) (hsz:P.cellsOf e=sz) (hby:P.bytesOf e=by_) (hpos:0 < sz) (hc:∀ a,(f a).cells.length=sz)
    (he:eo enc P W e f good):eo enc P W t (g9 sz f) (fun l=>(∀ a ∈ l,good a)∧l.length ≤ 9223372036854775807∧l.length * by_ ≤ 140737488351232):=fun n cs x hx hw=>by
 rcases Go.Deep.open_slice ht hx with ⟨rfl,rfl⟩ | ⟨a,len,cap,m,n',D,Pl,rfl,hb,hlc,hcm,hm,hxe,hel⟩
 ·exact ⟨[],⟨fun _ h=>(by cases h),by simp,by simp⟩,qe (.slnil _)⟩
 simp only [if_true] at hm;subst hxe;subst hm;have hw':∀ k ∈ ((DataW.slice (H:=H) ((List.range len).map D) ((List.range (m - len)).map fun j=>D (len + j))).weights P t),k ≤ reachBytes:=hw;simp only [DataW.weights,ht] at hw';have hlen:(((List.range len).map D).length + ((List.range (m - len)).map fun j=>D (len + j)).length) * P.bytesOf e ≤ reachBytes:=hw' _ (ko ..)
 have hbd:len * by_ ≤ 140737488351232:=by
  rw [hby] at hlen;simp only [cr,List.length_range] at hlen;have h1:len * by_ ≤ (len + (m - len)) * by_:=jL _ (by omega);have h2:reachBytes=140737488351232:=rfl;omega
 have hlm:len ≤ 9223372036854775807:=eX hlc hcm
 have key:∀ i,i < len→∃ a':α,good a'∧∃ cs',W.cells? 0 (a.add (i * sz)) sz=some cs'∧du (E0 (sw W)) W (f a').cells cs':=fun i hi=>by
  obtain ⟨cs',h1,h2⟩:=hel i (by omega);rw [hsz] at h1;obtain ⟨a',g1,g2⟩:=he n' cs' _ h2 (fun k hk=>hw' k (rO _ (sC _ (rG (cL.2 ⟨i,ju.2 hi,rfl⟩) hk))));exact ⟨a',g1,cs',h1,g2⟩
 obtain ⟨l,hl,hq⟩:=we key;refine ⟨l,⟨fun x hx=>?_,by omega,by rw [hl]; exact hbd⟩,qe ?_⟩
 ·obtain ⟨i,hi⟩:=sJ hx;exact (hq i x hi).1
 by_cases h0:len=0
 ·subst h0;have:l=[]:=fE.1 hl;subst this;exact .slempty _ _ _
 have hcell:∀ i j,i < len→j < sz→∃ v,W.cell? ((a.add (i * sz)).add j)=some v:=fun i j hi hj=>by
  obtain ⟨a',_,cs',h1,h2⟩:=key i hi;unfold World.cells? at h1;rw [if_pos (cq _)] at h1;have h3:=mapM_some_get h1 j j (by simp [hj])
  have h4:j < cs'.length:=by
   have:=mapM_some_length h1;simp at this; omega
  exact ⟨cs'[j],by rw [h3]; simp [h4]⟩
 obtain ⟨v0,hv0⟩:=hcell 0 0 (by omega) hpos;have ho:=AA hv0;simp only [ol,Addr.add,if_true] at ho;obtain ⟨blk,off,sp⟩:=a;obtain ⟨ho,hsp⟩:=ho;simp only at hsp ho;subst hsp
 have hadd:∀ i j,((⟨blk,off,none⟩:Addr).add (i * sz)).add j=⟨blk,off + (i * sz + j),none⟩:=fun i j=>by
  rw [ce,ce,pR]
 have hcell':∀ k,k < len * sz→∃ v,W.cell? ⟨blk,off + k,none⟩=some v:=fun k hk=>by
  have h1:k / sz < len:=Nat.div_lt_of_lt_mul (by rw [Nat.mul_comm]; exact hk);have h2:k % sz < sz:=Nat.mod_lt _ hpos;obtain ⟨v,hv⟩:=hcell (k / sz) (k % sz) h1 h2;rw [hadd,Nat.div_add_mod'] at hv;exact ⟨v,hv⟩
 have hlen2:(l.map f).length=len:=by simp [hl]
 have:=Rel.sl (E:=E0 (sw W)) (w:=W) sz (l.map f) blk off m (fun k=>(W.cell? ⟨blk,off + k,none⟩).getD Go.undef) ho (by rw [hlen2]; exact hlc)
  (fun x hx=>by obtain ⟨b,_,rfl⟩:=cL.1 hx; exact hc b)
  (fun k hk=>by
   rw [hlen2] at hk;obtain ⟨v,hv⟩:=hcell' k hk;simp only [hv,vS])
  (fun i j x y hx hy=>by
   rw [lK,Option.map_eq_some_iff] at hx;obtain ⟨a',ha',rfl⟩:=hx;obtain ⟨_,cs',h1,h2⟩:=hq i a' ha'
   have hj:j < sz:=by
    have:=(bD.1 hy).1
    rwa [hc] at this
   have hi:i < len:=by
    have:=(bD.1 ha').1;omega
   unfold World.cells? at h1;rw [if_pos (cq _)] at h1;have h3:=mapM_some_get h1 j j (by simp [hj])
   have h4:j < cs'.length:=by
    have:=mapM_some_length h1;simp at this; omega
   rw [hadd] at h3;have h5:cs'[j]?=some cs'[j]:=by simp [h4]
   rw [h5] at h3;simp only [h3,vS];exact h2.2 j y _ hy h5)
 rw [hlen2] at this;exact this
def uj (enc:TypeId × Value→H) (P:Program) (W:World) (fs:List Field) (off:Nat) {α:Type} (g:α→List AV) (good:α→Prop):Prop :=
 ∀ (n tot:Nat) (cs:List Value) (ys:List (DataW H × List MemPlace)),ys.length=fs.length→(∀ (i:Nat) (f:Field),fs[i]?=some f→DataW.trod enc P W 0 (fun _=>true) true n f.type ((cs.drop f.offset).take (P.cellsOf f.type))=ys[i]?) →
  (∀ k ∈ DataW.weightsEach P (fs.map fun f:Field=>f.type) (ys.map (·.1)),k ≤ reachBytes)→cs.length=tot→tot=off + (fs.map fun f:Field=>P.cellsOf f.type).sum→∃ a:α,good a∧du (E0 (sw W)) W (g a) (cs.drop off)
theorem r7 {off:Nat}:uj enc P W [] off (fun _:Unit=>[]) (fun _=>True):=fun n tot cs ys _ _ _ h1 h2=>by
 refine ⟨(),trivial,?_⟩;rw [yq (by simp at h2; omega)];exact ⟨rfl,fun i a b h=>by simp at h⟩
theorem li {fd:Field} {fs:List Field} {off off':Nat} {α β:Type} {f:α→AV} {g:β→List AV} {good:α→Prop} {good':β→Prop} (ho:fd.offset=off) (ho':off + P.cellsOf fd.type=off')
    (h:eo enc P W fd.type f good) (h':uj enc P W fs off' g good'):uj enc P W (fd :: fs) off (fun a:α × β=>(f a.1).cells ++ g a.2) (fun a=>good a.1∧good' a.2):=fun n tot cs ys hl hy hw h1 h2=>by
 obtain ⟨y,ys,rfl⟩:∃ y ys',ys=y :: ys':=by
  cases ys with
  | nil=>simp at hl
  | cons y ys=>exact ⟨y,ys,rfl⟩
 have hy0:=hy 0 fd rfl;simp only [sg] at hy0;rw [ho] at hy0;simp only [gv,DataW.weightsEach] at hw;obtain ⟨a,g1,g2⟩:=h n _ y hy0 (fun k hk=>hw k (sC _ hk));simp only [gv,List.sum_cons] at h2
 obtain ⟨b,g3,g4⟩:=h' n tot cs ys (by simpa using hl) (fun i f hf=>by
  have:=hy (i + 1) f (by simpa using hf);simpa using this) (fun k hk=>hw k (so _ hk)) h1 (by omega)
 refine ⟨(a,b),⟨g1,g3⟩,?_⟩
 have e:cs.drop off=(cs.drop off).take (P.cellsOf fd.type) ++ cs.drop off':=by
  rw [← ho',← List.drop_drop,Aw]
 rw [e];exact du.app g2 g4
theorem mI {t:TypeId} {fs:Array Field} {α:Type} {g:α→List AV} {good:α→Prop} (ht:P.underlying t=some (.struct fs)) (hsum:P.cellsOf t=(fs.toList.map fun f:Field=>P.cellsOf f.type).sum)
    (h:uj enc P W fs.toList 0 g good):eo enc P W t (fun a=>.agg (g a)) good:=fun n cs x hx hw=>by
 obtain ⟨ys,n',rfl,rfl,hl,hs,hy⟩:=DataW.trod_struct ht hx
 obtain ⟨a,g1,g2⟩:=h n' _ cs ys (by rw [hs]; simp) (fun i f hf=>hy i f (by simpa using hf)) (fun k hk=>hw k (by
  simp only [DataW.weights,ht]; exact hk)) hl (by rw [b0,hsum])
 exact ⟨a,g1,by rw [List.drop_zero] at g2; exact g2⟩
theorem eo.map {t:TypeId} {α β:Type} {f:α→AV} {good:α→Prop} {f':β→AV} {good':β→Prop} (h:eo enc P W t f good) (φ:α→β) (hg:∀ a,good a→good' (φ a)) (hf:∀ a,good a→(f' (φ a)).cells=(f a).cells):eo enc P W t f' good':=fun n cs x hx hw=>by
 obtain ⟨a,h1,h2⟩:=h n cs x hx hw;exact ⟨φ a,hg a h1,by rw [hf a h1]; exact h2⟩
theorem eo.at {t u:TypeId} {α:Type} {f:α→AV} {good:α→Prop} (e:t=u) (h:eo enc P W u f good):eo enc P W t f good:=e ▸ h
theorem eo.argA {t:TypeId} {α:Type} {f:α→AV} {good:α→Prop} (h:eo enc P W t f good) {r:Reach} {base:Nat} {v:Value} {d:DataW H} {ps:List MemPlace} (ht:nz P t=true) (hf:∀ a,∃ cs,f a=.agg cs)
    (hval:Value.okWide P W r base t v) (hd:DataW.Trod enc P W 0 (fun _=>true) true t v d ps) (hw:∀ k ∈ d.weights P t,k ≤ reachBytes):∃ a,good a∧Rel (E0 (sw W)) W (f a) v:=by
 obtain ⟨n,hn⟩:=hd;obtain ⟨a,h1,h2⟩:=h n _ _ hn hw;refine ⟨a,h1,?_⟩
 obtain ⟨cs,hcs,_⟩:∃ cs,v=.agg cs∧True:=by
  unfold Value.okWide at hval;unfold nz at ht;split at hval
  ·obtain ⟨cs,h,_⟩:=hval; exact ⟨cs,h,trivial⟩
  ·obtain ⟨cs,h,_⟩:=hval; exact ⟨cs,h,trivial⟩
  ·rename_i k1 k2;revert ht;cases hu:P.underlying t with
   | none=>simp
   | some u =>
    cases u with
    | struct fs=>exact absurd hu (k1 fs)
    | array m e=>exact absurd hu (k2 m e)
    | _=>simp
 subst hcs;obtain ⟨xs,hx⟩:=hf a;rw [hx] at h2 ⊢;exact .agg xs cs.toList h2.1 h2.2
theorem eo.arg1 {t:TypeId} {α:Type} {f:α→AV} {good:α→Prop} (h:eo enc P W t f good) {v:Value} {d:DataW H} {ps:List MemPlace} (hf:∀ a,(f a).cells=[f a]) (hv:v.cells=#[v])
    (hd:DataW.Trod enc P W 0 (fun _=>true) true t v d ps) (hw:∀ k ∈ d.weights P t,k ≤ reachBytes):∃ a,good a∧Rel (E0 (sw W)) W (f a) v:=by
 obtain ⟨n,hn⟩:=hd;obtain ⟨a,h1,h2⟩:=h n _ _ hn hw;rw [hf,hv] at h2;exact ⟨a,h1,h2.2 0 _ _ rfl rfl⟩
theorem sY {t:TypeId} {r:Reach} {base:Nat} {v:Value} (ht:nz P t=false) (hval:Value.okWide P W r base t v):v.cells=#[v]:=by
 cases v <;> try rfl
 rename_i cs;exfalso;unfold Value.okWide at hval;unfold nz at ht;cases hu:P.underlying t with
 | none=>simp only [hu,Cell.okWide,Cell.ok] at hval
 | some u =>
  rw [hu] at ht;cases u <;> simp only [hu,Cell.okWide,Cell.ok] at hval <;> simp at ht
theorem l7 (hl:laidOutB P=true) {W':World} (hb:Below W.heap.size W W') {sp:Nat→Bool}:∀ {ts:List TypeId} {vs:List Value} {ds:List (DataW H)} {ps:List MemPlace},(∀ t ∈ ts,P.readableRec t=true∧t < P.types.size) →
    DataW.TrodAll enc P W 0 (fun _=>true) true ts vs ds ps→(∀ p ∈ ps,p.block < W.heap.size)→(∀ p ∈ ps,sp p.block=true)→DataW.TrodAll enc P W' 0 sp true ts vs ds ps
 | [],[],[],ps,_,h,_,_=>h
 | t :: ts,v :: vs,d :: ds,ps,hr,⟨p,q,h1,h2,e⟩,hlt,hsp=>by
  subst e
  exact ⟨p,q,WideElems.Trod_stays hl (hr t (ko ..)).1 (hr t (ko ..)).2 h1 (fun x hx=>hb.same (hlt x (sC _ hx))) (fun x hx=>hsp x (sC _ hx)),
   l7 hl hb (fun t ht=>hr t (rO _ ht)) h2 (fun x hx=>hlt x (so _ hx)) (fun x hx=>hsp x (so _ hx)),rfl⟩
 | [],_ :: _,_,_,_,h,_,_=>h.elim
 | [],[],_ :: _,_,_,h,_,_=>h.elim
 | _ :: _,[],_,_,_,h,_,_=>h.elim
 | _ :: _,_ :: _,[],_,_,h,_,_=>h.elim
theorem ll:∀ {ts:List TypeId} {ds:List (DataW H)} {i:Nat} {t:TypeId} {d:DataW H},ts[i]?=some t→ds[i]?=some d→∀ k ∈ d.weights P t,k ∈ DataW.weightsEach P ts ds
 | t :: ts,d :: ds,0,_,_,h1,h2,k,hk=>by
  simp at h1 h2; subst h1 h2;unfold DataW.weightsEach;exact sC _ hk
 | t :: ts,d :: ds,i + 1,_,_,h1,h2,k,hk=>by
  unfold DataW.weightsEach;exact so _ (ll (ts:=ts) (ds:=ds) (by simpa using h1) (by simpa using h2) k hk)
 | [],_,i,_,_,h1,_,_,_=>by simp at h1
 | _ :: _,[],i,_,_,_,h2,_,_=>by simp at h2
end
end Go.Abs
namespace Go.Proofs.YtpfkjcjgdilkkaaGreat
open Go Go.Abs Go.Abs.C2 Go.Abs.Ins Go.Abs.Opd Go.Abs.TK Go.Abs.MK
def cO (d:Nat) (i:Ins):Op2:=Op2.mk (some d) none i
def cG (d g:Nat) (b:Bool) (i:Ins):Op2:=Op2.mk (some d) (some (g,b)) i
def cN (k:Int):Opd:=Opd.c (AV.int IntKind.i64 k)
def cM (n:Nat):Ins:=Ins.mov (Opd.t n)
def cD (n:Nat):Ins:=Ins.ld1 (Opd.t n)
def cF (n:Nat):Opd:=Opd.c (AV.func n [])
def cB (o:BinOp) (x y:Opd):Ins:=Ins.bin o false false x y
def a9:Opd:=Opd.c (AV.bool false)
def dQ:Opd:=Opd.c (AV.bool true)
def aa (d s:Nat):Op2:=Op2.mk (some d) none (Ins.mov (Opd.t s))
def aN (d s:Nat):Op2:=Op2.mk (some d) none (Ins.ld1 (Opd.t s))
def aM (d n s:Nat):Op2:=Op2.mk (some d) none (Ins.ldn n (Opd.t s))
def bn (d s:Nat):Op2:=Op2.mk (some d) none (Ins.lenS (Opd.t s))
def cf (d n s:Nat):Op2:=Op2.mk (some d) none (Ins.fa n (Opd.t s))
def bd (d s n:Nat):Op2:=Op2.mk (some d) none (Ins.ext (Opd.t s) n)
def aL (d f:Nat) (l:List Opd):Op2:=Op2.mk (some d) none (Ins.call (Opd.c (AV.func f [])) l)
def aJ (d:Nat) (o:BinOp) (x y:Nat):Op2:=Op2.mk (some d) none (Ins.bin o false false (Opd.t x) (Opd.t y))
def aq (d:Nat) (o:BinOp) (x:Nat) (y:Int):Op2:=Op2.mk (some d) none (Ins.bin o false false (Opd.t x) (Opd.c (AV.int IntKind.i64 y)))
def aV (n p v:Nat):Op2:=Op2.mk none none (Ins.st n (Opd.t p) (Opd.t v))
def cQ (d g:Nat) (i:Ins):Op2:=Op2.mk (some d) (some (g,false)) i
def al (d g:Nat) (i:Ins):Op2:=Op2.mk (some d) (some (g,true)) i
def az (n:Nat) (x y:C2):C2:=C2.cond (Opd.t n) x y
def ac (l:List Op2) (x:C2):C2:=C2.seq (C2.ops 0 l) x
def aX:AV:=AV.int IntKind.i64 0
theorem aK:(∀ (d:Nat) (i:Ins),cO d i=Op2.mk (some d) none i)∧(∀ (d g:Nat) (b:Bool) (i:Ins),cG d g b i=Op2.mk (some d) (some (g,b)) i)∧(∀ (k:Int),cN k=Opd.c (AV.int IntKind.i64 k))∧(∀ (n:Nat),cM n=Ins.mov (Opd.t n))∧(∀ (n:Nat),cD n=Ins.ld1 (Opd.t n))∧(∀ (n:Nat),cF n=Opd.c (AV.func n []))∧(∀ (o:BinOp) (x y:Opd),cB o x y=Ins.bin o false false x y)∧(a9=Opd.c (AV.bool false))∧(dQ=Opd.c (AV.bool true))∧(∀ (d s:Nat),aa d s=Op2.mk (some d) none (Ins.mov (Opd.t s)))∧(∀ (d s:Nat),aN d s=Op2.mk (some d) none (Ins.ld1 (Opd.t s)))∧(∀ (d n s:Nat),aM d n s=Op2.mk (some d) none (Ins.ldn n (Opd.t s)))∧(∀ (d s:Nat),bn d s=Op2.mk (some d) none (Ins.lenS (Opd.t s)))∧(∀ (d n s:Nat),cf d n s=Op2.mk (some d) none (Ins.fa n (Opd.t s)))∧(∀ (d s n:Nat),bd d s n=Op2.mk (some d) none (Ins.ext (Opd.t s) n))∧(∀ (d f:Nat) (l:List Opd),aL d f l=Op2.mk (some d) none (Ins.call (Opd.c (AV.func f [])) l))∧(∀ (d:Nat) (o:BinOp) (x y:Nat),aJ d o x y=Op2.mk (some d) none (Ins.bin o false false (Opd.t x) (Opd.t y)))∧(∀ (d:Nat) (o:BinOp) (x:Nat) (y:Int),aq d o x y=Op2.mk (some d) none (Ins.bin o false false (Opd.t x) (Opd.c (AV.int IntKind.i64 y))))∧(∀ (n p v:Nat),aV n p v=Op2.mk none none (Ins.st n (Opd.t p) (Opd.t v)))∧(∀ (d g:Nat) (i:Ins),cQ d g i=Op2.mk (some d) (some (g,false)) i)∧(∀ (d g:Nat) (i:Ins),al d g i=Op2.mk (some d) (some (g,true)) i)∧(∀ (n:Nat) (x y:C2),az n x y=C2.cond (Opd.t n) x y)∧(∀ (l:List Op2) (x:C2),ac l x=C2.seq (C2.ops 0 l) x)∧(aX=AV.int IntKind.i64 0):=⟨fun _ _=>rfl,fun _ _ _ _=>rfl,fun _=>rfl,fun _=>rfl,fun _=>rfl,fun _=>rfl,fun _ _ _=>rfl,rfl,rfl,fun _ _=>rfl,fun _ _=>rfl,fun _ _ _=>rfl,fun _ _=>rfl,fun _ _ _=>rfl,fun _ _ _=>rfl,fun _ _ _=>rfl,fun _ _ _ _=>rfl,fun _ _ _ _=>rfl,fun _ _ _=>rfl,fun _ _ _=>rfl,fun _ _ _=>rfl,fun _ _ _=>rfl,fun _ _=>rfl,rfl⟩
theorem mkI {P:Program} {f:FuncId} {F:F2} {fn:Func} (h1:P.funcs[f]?=some fn) (h2:u9 P fn=some F:=by kernel_rfl):Is P f F:=Is.mk' h1 h2
theorem follows:Tryz.prog.follows .mixedOrders=true:=by rfl
def b3:F2:=(F2.mk 131 [RV.t 6] (ac [cO 3 (box (t 0)),cO 6 (mov a9)] ((ac [aL 22 5 [],cO 23 (un UnOp.not (t 22))] (az 23 (ac [cO 6 (mov a9)] ret) skip)).seq ((ac [aM 24 1 3,aL 25 6 [t 24],cO 26 (un UnOp.not (t 25)),aa 27 26,cQ 28 27 (cM 1),cQ 29 27 (lenS (t 28)),cQ 30 27 (cB .gtr (t 29) (cN 40)),cO 31 (pick (t 27) dQ (t 30)),aa 32 31,cQ 33 32 (fa 0 (t 3)),cQ 34 32 (cD 33),cQ 35 32 (lenS (t 34)),cQ 36 32 (cB .eql (t 35) (cN 0)),cO 37 (pick (t 32) dQ (t 36))] (az 37 (ac [cO 6 (mov dQ)] ret) skip)).seq (ac [aM 39 1 3,aa 40 1,aL 41 7 [t 39,t 40],aa 38 41,bd 42 38 0,bd 43 38 1,cO 7 (alloc (AV.agg [AV.esl,AV.esl])),aV 2 7 42,aa 8 43] (ac [aM 45 2 7,aM 46 1 3,aL 47 8 [t 45,t 46],aa 44 47,bd 48 44 0,bd 49 44 1,cO 9 (alloc (AV.agg [AV.esl])),aV 1 9 48,aa 10 49] ((ac [aa 50 8,aa 51 10,aJ 52 .add 50 51,aq 53 .neq 52 0] (az 53 (ac [cO 6 (mov a9)] ret) skip)).seq ((ops 1 [cf 54 0 3,aN 55 54,aa 56 2,cO 57 (conv IntKind.i64 (t 56)),cf 58 0 3,aN 59 58,bn 60 59,aJ 61 .rem 57 60,cO 62 (ixaS 1 (t 55) (t 61)),aN 63 62,aa 11 63]).seq ((ac [aa 64 11,bn 65 64,cO 66 (mov (cN 0))] (block 0 (ac [aJ 67 .lss 66 65] ((az 67 skip (exit 0)).seq ((block 1 (ac [aa 68 66,aa 12 68] (ac [aa 69 11,aa 70 12,aq 71 .add 70 1,cO 72 (sls 2 (t 69) none (some (t 71)) none),aa 13 72] (ac [aM 74 2 7,aa 75 13,aL 76 9 [t 74,t 75],aa 73 76,bd 77 73 0,bd 78 73 1,aa 14 77,aa 15 78] (ac [aM 80 1 3,aa 81 13,aL 82 10 [t 80,t 81],aa 79 82,bd 83 79 0,bd 84 79 1,cO 16 (alloc (AV.agg [AV.esl])),aV 1 16 83,aa 17 84] ((ac [aa 85 15,aa 86 17,aJ 87 .add 85 86,aq 88 .neq 87 0] (az 88 (ac [cO 6 (mov a9)] ret) skip)).seq (ac [aM 90 1 9,aa 91 14,aL 92 10 [t 90,t 91],aa 89 92,bd 93 89 0,bd 94 89 1,cO 18 (alloc (AV.agg [AV.esl])),aV 1 18 93,aa 15 94] (ac [aM 96 2 7,aM 97 1 16,aM 98 1 18,aL 99 11 [t 96,t 97,t 98],aa 95 99,bd 100 95 0,bd 101 95 1,aa 19 100,aa 17 101] ((ac [aa 102 15,aa 103 17,aJ 104 .add 102 103,aq 105 .neq 104 0,aa 106 105,cQ 107 106 (cM 19),cQ 108 106 (un UnOp.not (t 107)),cO 109 (pick (t 106) dQ (t 108))] (az 109 (ac [cO 6 (mov a9)] ret) skip)).seq (ac [aM 111 2 7,aa 112 11,aL 113 9 [t 111,t 112],aa 110 113,bd 114 110 0,bd 115 110 1,aa 20 114,aa 15 115] (ac [aa 117 14,aa 118 20,aL 119 12 [t 117,t 118],aa 116 119,bd 120 116 0,bd 121 116 1,aa 21 120,aa 17 121] (ac [aa 122 15,aa 123 17,aJ 124 .add 122 123,aq 125 .neq 124 0,aa 126 125,cQ 127 126 (cM 21),cQ 128 126 (un UnOp.not (t 127)),cO 129 (pick (t 126) dQ (t 128))] (az 129 (ac [cO 6 (mov a9)] ret) skip))))))))))))).seq (ops 0 [aq 130 .add 66 1,aa 66 130])))).loop)).seq (ac [cO 6 (mov dQ)] ret))))))))))
def b4:F2:=(F2.mk 213 [RV.t 6] (ac [cO 3 (box (t 0)),cO 6 (mov a9)] ((ac [aL 32 5 [],cO 33 (un UnOp.not (t 32))] (az 33 (ac [cO 6 (mov a9)] ret) skip)).seq ((ac [aM 34 1 3,aL 35 6 [t 34],cO 36 (un UnOp.not (t 35)),aa 37 36,cQ 38 37 (cM 1),cQ 39 37 (lenS (t 38)),cQ 40 37 (cB .gtr (t 39) (cN 40)),cO 41 (pick (t 37) dQ (t 40)),aa 42 41,cQ 43 42 (cM 2),cQ 44 42 (lenS (t 43)),cQ 45 42 (cB .gtr (t 44) (cN 40)),cO 46 (pick (t 42) dQ (t 45))] (az 46 (ac [cO 6 (mov dQ)] ret) skip)).seq (ac [aM 48 1 3,aa 49 1,aL 50 7 [t 48,t 49],aa 47 50,bd 51 47 0,bd 52 47 1,cO 7 (alloc (AV.agg [AV.esl,AV.esl])),aV 2 7 51,aa 8 52] (ac [aM 54 2 7,aM 55 1 3,aL 56 8 [t 54,t 55],aa 53 56,bd 57 53 0,bd 58 53 1,cO 9 (alloc (AV.agg [AV.esl])),aV 1 9 57,aa 10 58] ((ac [aa 59 8,aa 60 10,aJ 61 .add 59 60,aq 62 .neq 61 0] (az 62 (ac [cO 6 (mov a9)] ret) skip)).seq (ac [aM 64 1 9,aa 65 2,aL 66 7 [t 64,t 65],aa 63 66,bd 67 63 0,bd 68 63 1,cO 11 (alloc (AV.agg [AV.esl,AV.esl])),aV 2 11 67,aa 8 68] (ac [aM 70 2 11,aM 71 1 9,aL 72 8 [t 70,t 71],aa 69 72,bd 73 69 0,bd 74 69 1,cO 12 (alloc (AV.agg [AV.esl])),aV 1 12 73,aa 10 74] (ac [aM 76 2 7,aM 77 2 11,aL 78 13 [t 76,t 77],aa 75 78,bd 79 75 0,bd 80 75 1,cO 13 (alloc (AV.agg [AV.esl,AV.esl])),aV 2 13 79,aa 14 80] ((ac [aa 81 8,aa 82 10,aJ 83 .add 81 82,aa 84 14,aJ 85 .add 83 84,aq 86 .neq 85 0] (az 86 (ac [cO 6 (mov a9)] ret) skip)).seq (ac [aM 88 2 13,aM 89 1 3,aL 90 8 [t 88,t 89],aa 87 90,bd 91 87 0,bd 92 87 1,cO 15 (alloc (AV.agg [AV.esl])),aV 1 15 91,aa 8 92] (ac [aM 94 2 13,aM 95 1 3,aM 96 1 12,aL 97 11 [t 94,t 95,t 96],aa 93 97,bd 98 93 0,bd 99 93 1,aa 16 98,aa 10 99] ((ac [aa 100 8,aa 101 10,aJ 102 .add 100 101,aq 103 .neq 102 0,aa 104 103,cQ 105 104 (cM 16),cQ 106 104 (un UnOp.not (t 105)),cO 107 (pick (t 104) dQ (t 106)),aa 108 107,cQ 109 108 (ldn 1 (t 15)),cQ 110 108 (ldn 1 (t 12)),cQ 111 108 (call (cF 14) [t 109,t 110]),cQ 112 108 (un UnOp.not (t 111)),cO 113 (pick (t 108) dQ (t 112))] (az 113 (ac [cO 6 (mov a9)] ret) skip)).seq ((ac [cO 114 (mov (cN 0))] (block 0 (ac [aq 115 .lss 114 4] ((az 115 skip (exit 0)).seq ((block 1 (ac [aa 116 114,aa 17 116] (ac [aM 118 2 7,aM 119 1 3,aM 120 1 9,aa 121 17,aL 122 15 [t 118,t 119,t 120,t 121],aa 117 122,bd 123 117 0,bd 124 117 1,cO 18 (alloc (AV.agg [aX,AV.esl])),aV 2 18 123,aa 19 124] (ac [aM 126 2 11,aM 127 1 9,aM 128 1 12,aa 129 17,aL 130 15 [t 126,t 127,t 128,t 129],aa 125 130,bd 131 125 0,bd 132 125 1,cO 20 (alloc (AV.agg [aX,AV.esl])),aV 2 20 131,aa 21 132] (ac [aM 134 2 13,aM 135 1 3,aM 136 1 12,aa 137 17,aL 138 15 [t 134,t 135,t 136,t 137],aa 133 138,bd 139 133 0,bd 140 133 1,cO 22 (alloc (AV.agg [aX,AV.esl])),aV 2 22 139,aa 23 140] (ac [aM 142 2 20,aM 143 2 18,aL 144 16 [t 142,t 143],aa 141 144,bd 145 141 0,bd 146 141 1,cO 24 (alloc (AV.agg [aX,AV.esl])),aV 2 24 145,aa 25 146] ((ac [aa 147 19,aa 148 21,aJ 149 .add 147 148,aa 150 23,aJ 151 .add 149 150,aa 152 25,aJ 153 .add 151 152,aq 154 .neq 153 0,aa 155 154,cQ 156 155 (ldn 2 (t 22)),cQ 157 155 (ldn 2 (t 24)),cQ 158 155 (call (cF 17) [t 156,t 157]),cQ 159 155 (un UnOp.not (t 158)),cO 160 (pick (t 155) dQ (t 159))] (az 160 (ac [cO 6 (mov a9)] ret) skip)).seq ((ac [aa 161 17,aq 162 .eql 161 0] (az 162 (exit 1) skip)).seq (ac [aM 164 2 7,aM 165 1 3,aM 166 1 9,aa 167 17,aq 168 .sub 167 1,aL 169 15 [t 164,t 165,t 166,t 168],aa 163 169,bd 170 163 0,bd 171 163 1,cO 26 (alloc (AV.agg [aX,AV.esl])),aV 2 26 170,aa 19 171] (ac [aM 173 1 3,aa 174 17,aL 175 18 [t 173,t 174],aa 172 175,bd 176 172 0,bd 177 172 1,cO 27 (alloc (AV.agg [aX,AV.esl])),aV 2 27 176,aa 21 177] (ac [aM 179 1 9,aa 180 17,aL 181 18 [t 179,t 180],aa 178 181,bd 182 178 0,bd 183 178 1,cO 28 (alloc (AV.agg [aX,AV.esl])),aV 2 28 182,aa 23 183] (ac [aM 185 2 28,aM 186 2 18,aL 187 16 [t 185,t 186],aa 184 187,bd 188 184 0,bd 189 184 1,cO 29 (alloc (AV.agg [aX,AV.esl])),aV 2 29 188,aa 25 189] (ac [aM 191 2 26,aM 192 2 27,aL 193 16 [t 191,t 192],aa 190 193,bd 194 190 0,bd 195 190 1,cO 30 (alloc (AV.agg [aX,AV.esl])),aV 2 30 194,aa 31 195] (ac [aa 196 19,aa 197 21,aJ 198 .add 196 197,aa 199 23,aJ 200 .add 198 199,aa 201 25,aJ 202 .add 200 201,aa 203 31,aJ 204 .add 202 203,aq 205 .neq 204 0,aa 206 205,cQ 207 206 (ldn 2 (t 29)),cQ 208 206 (ldn 2 (t 30)),cQ 209 206 (call (cF 17) [t 207,t 208]),cQ 210 206 (un UnOp.not (t 209)),cO 211 (pick (t 206) dQ (t 210))] (az 211 (ac [cO 6 (mov a9)] ret) skip))))))))))))))).seq (ops 0 [aq 212 .add 114 1,aa 114 212])))).loop)).seq (ac [cO 6 (mov dQ)] ret))))))))))))))))
theorem is4:Is Tryz.prog 4 b4:=mkI Tryz.func4
def b5:F2:=(F2.mk 77 [RV.t 0] (ac [cO 0 (mov a9)] (ac [cO 10 (bld [aX,aX] []),cO 11 (bld [aX,aX] [(0,1,cN ((1)))]),cO 12 (bld [aX,aX] [(0,1,cN ((2)))]),cO 1 (alloc (AV.agg [aX,aX])),cO 2 (alloc (AV.agg [aX,aX])),cO 3 (alloc (AV.agg [aX,aX])),aV 2 1 10,aV 2 2 11,aV 2 3 12] (ac [aM 13 2 1,aM 14 2 2,aM 15 2 3,cO 16 (bldS 2 3 [aX,aX] [(0,2,t 13),(2,2,t 14),(4,2,t 15)]),aM 17 2 1,aM 18 2 2,aM 19 2 1,cO 20 (bldS 2 3 [aX,aX] [(0,2,t 17),(2,2,t 18),(4,2,t 19)]),cO 21 (bld [AV.esl,AV.esl] [(0,1,t 16),(1,1,t 20)]),cO 4 (alloc (AV.agg [AV.esl,AV.esl])),aV 2 4 21] (ac [aM 22 2 1,aM 23 2 2,aM 24 2 3,cO 25 (bldS 2 3 [aX,aX] [(0,2,t 22),(2,2,t 23),(4,2,t 24)]),cO 26 (bldS 1 1 [AV.esl] [(0,1,t 25)]),cO 27 (bld [AV.esl] [(0,1,t 26)]),cO 5 (alloc (AV.agg [AV.esl])),aV 1 5 27] (ac [aM 29 2 4,aM 30 1 5,aL 31 8 [t 29,t 30],aa 28 31,bd 32 28 0,bd 33 28 1,cO 6 (alloc (AV.agg [AV.esl])),aV 1 6 32,aa 7 33] (ac [aM 35 1 5,aM 36 2 1,cO 37 (bldS 2 1 [aX,aX] [(0,2,t 36)]),aL 38 19 [t 35,t 37],aa 34 38,bd 39 34 0,bd 40 34 1,cO 8 (alloc (AV.agg [AV.esl])),aV 1 8 39,aa 9 40] ((mixS 1 [aa 41 7,aa 42 9,aJ 43 .add 41 42,aq 44 .eql 43 0,aa 45 44,al 46 45 (fa 0 (t 6)),al 47 45 (cD 46),al 48 45 (lenS (t 47)),al 49 45 (cB .eql (t 48) (cN 1)),cO 50 (pick (t 45) (t 49) a9),aa 51 50,al 52 51 (fa 0 (t 6)),al 53 51 (cD 52),al 54 51 (ixaS 1 (t 53) (cN 0)),al 55 51 (cD 54),al 56 51 (ldn 2 (t 1)),al 57 51 (ldn 2 (t 2)),al 58 51 (bldS 2 2 [aX,aX] [(0,2,t 56),(2,2,t 57)]),al 59 51 (call (cF 20) [t 55,t 58]),cO 60 (pick (t 51) (t 59) a9),aa 61 60,al 62 61 (fa 0 (t 8)),al 63 61 (cD 62),al 64 61 (lenS (t 63)),al 65 61 (cB .eql (t 64) (cN 1)),cO 66 (pick (t 61) (t 65) a9),aa 67 66,al 68 67 (fa 0 (t 8)),al 69 67 (cD 68),al 70 67 (ixaS 1 (t 69) (cN 0)),al 71 67 (cD 70),al 72 67 (ldn 2 (t 2)),al 73 67 (ldn 2 (t 3)),al 74 67 (bldS 2 2 [aX,aX] [(0,2,t 72),(2,2,t 73)]),al 75 67 (call (cF 20) [t 71,t 74]),cO 76 (pick (t 67) (t 75) a9),aa 0 76] [(0,0),(1,0),(2,0),(3,0),(4,0),(5,0),(6,0),(7,0),(8,0),(9,0),(10,0),(11,0),(12,0),(13,0),(14,0),(15,0),(16,0),(17,1),(18,1),(19,0),(20,0),(21,0),(22,0),(23,0),(24,0),(25,0),(26,0),(27,0),(28,0),(29,0),(30,0),(31,0),(32,0),(33,1),(34,2),(35,0),(36,0)]).seq ret))))))))
theorem is5:Is Tryz.prog 5 b5:=mkI Tryz.func5
def b6:F2:=(F2.mk 27 [RV.t 2] (ac [cO 1 (box (t 0)),cO 2 (mov a9)] (ac [aM 6 1 1,aL 7 21 [t 6],aa 5 7,bd 8 5 0,bd 9 5 1,aa 3 8,aa 4 9] (ac [aM 10 1 1,aL 11 22 [t 10],aa 12 11,al 13 12 (ldn 1 (t 1)),al 14 12 (call (cF 23) [t 13]),al 15 12 (cB .eql (t 14) (cN 0)),cO 16 (pick (t 12) (t 15) a9),aa 17 16,al 18 17 (fa 0 (t 1)),al 19 17 (cD 18),al 20 17 (lenS (t 19)),al 21 17 (cB .leq (t 20) (cN 12)),cO 22 (pick (t 17) (t 21) a9),aa 23 22,al 24 23 (cM 3),al 25 23 (cB .leq (t 24) (cN 3)),cO 26 (pick (t 23) (t 25) a9),aa 2 26] ret))))
theorem is6:Is Tryz.prog 6 b6:=mkI Tryz.func6
def b7:F2:=(F2.mk 48 [RV.cn 4 2,RV.t 5] (ac [cO 2 (box (t 0)),cO 4 (alloc (AV.agg [AV.esl,AV.esl])),cO 5 (mov (cN 0))] (ac [aM 12 1 2,aL 13 24 [t 12],aa 11 13,bd 14 11 0,bd 15 11 1,aa 6 14,aa 7 15] (ac [aa 16 6,cO 17 (bld [AV.esl,AV.esl] [(0,1,t 16)]),cO 8 (alloc (AV.agg [AV.esl,AV.esl])),aV 2 8 17] ((ac [aa 18 6,bn 19 18,cO 20 (mov (cN 0))] (block 0 (ac [aJ 21 .lss 20 19] ((az 21 skip (exit 0)).seq ((block 1 (ac [aa 22 20,aa 9 22] (ac [cO 10 (mov (cN 0))] ((ac [aa 23 1,bn 24 23,aq 25 .gtr 24 0] (az 25 (ops 0 [aa 26 1,aa 27 9,aa 28 1,bn 29 28,aJ 30 .rem 27 29,cO 31 (ixaS 1 (t 26) (t 30)),aN 32 31,cO 33 (conv IntKind.i64 (t 32)),aa 10 33]) skip)).seq (ops 0 [cf 34 1 8,aN 35 34,aa 36 10,aq 37 .rem 36 3,aa 38 10,aq 39 .quo 38 3,aq 40 .rem 39 3,cO 41 (bld [aX,aX] [(0,1,t 37),(1,1,t 40)]),cO 42 (bldS 2 1 [aX,aX] [(0,2,t 41)]),cO 43 (app 2 16 (t 35) (t 42)),cf 44 1 8,aV 1 44 43]))))).seq (ops 0 [aq 45 .add 20 1,aa 20 45])))).loop)).seq (ac [aM 46 2 8,aa 47 7,aV 2 4 46,aa 5 47] ret))))))
theorem is7:Is Tryz.prog 7 b7:=mkI Tryz.func7
def b8:F2:=(F2.mk 39 [RV.cn 4 1,RV.t 5] (ac [cO 2 (box (t 0)),cO 3 (box (t 1)),cO 4 (alloc (AV.agg [AV.esl])),cO 5 (mov (cN 0))] (ac [aM 12 2 2,aL 13 25 [t 12],aa 11 13,bd 14 11 0,bd 15 11 1,aa 6 14,aa 7 15] ((ac [aa 16 7,aq 17 .neq 16 0] (az 17 (ac [cO 18 (bld [AV.esl] []),aa 19 7,aV 1 4 18,aa 5 19] ret) skip)).seq ((ac [aM 20 1 3,aL 21 26 [t 20],aa 8 21] (ac [aa 22 8,aq 23 .neq 22 0] (az 23 (ac [cO 24 (bld [AV.esl] []),aa 25 8,aV 1 4 24,aa 5 25] ret) skip))).seq (ac [aa 27 6,aM 28 1 3,aL 29 27 [t 27,t 28],aa 26 29,bd 30 26 0,bd 31 26 1,aa 9 30,aa 10 31] ((ac [aa 32 10,cO 33 (un UnOp.not (t 32))] (az 33 (ac [cO 34 (bld [AV.esl] []),aV 1 4 34,cO 5 (mov (cN 6))] ret) skip)).seq (ac [aa 35 9,aL 36 28 [t 35],bd 37 36 0,bd 38 36 1,aV 1 4 37,aa 5 38] ret))))))))
theorem is8:Is Tryz.prog 8 b8:=mkI Tryz.func8
def b11:F2:=(F2.mk 50 [RV.t 6,RV.t 7] (ac [cO 3 (box (t 0)),cO 4 (box (t 1)),cO 5 (box (t 2)),cO 6 (mov a9),cO 7 (mov (cN 0))] (ac [aM 17 2 3,aL 18 25 [t 17],aa 16 18,bd 19 16 0,bd 20 16 1,aa 8 19,aa 9 20] ((ac [aa 21 9,aq 22 .neq 21 0] (az 22 (ac [aa 23 9,cO 6 (mov a9),aa 7 23] ret) skip)).seq ((ac [aM 24 1 4,aM 25 1 5,cO 26 (bldS 1 2 [AV.esl] [(0,1,t 24),(1,1,t 25)]),bn 27 26,cO 28 (mov (cN 0))] (block 0 (ac [aJ 29 .lss 28 27] ((az 29 skip (exit 0)).seq ((block 1 (ac [cO 30 (ixaS 1 (t 26) (t 28)),aM 31 1 30,cO 11 (alloc (AV.agg [AV.esl])),aV 1 11 31] (ac [aM 32 1 11,aL 33 26 [t 32],aa 12 33] (ac [aa 34 12,aq 35 .neq 34 0] (az 35 (ac [aa 36 12,cO 6 (mov a9),aa 7 36] ret) skip))))).seq (ops 0 [aq 37 .add 28 1,aa 28 37])))).loop)).seq (ac [aa 39 8,aM 40 1 4,aL 41 27 [t 39,t 40],aa 38 41,bd 42 38 0,bd 43 38 1,aa 13 42,aa 14 43] ((ac [aa 44 14,cO 45 (un UnOp.not (t 44))] (az 45 (ac [cO 6 (mov a9),cO 7 (mov (cN 6))] ret) skip)).seq (ac [cO 15 (alloc AV.nilf),Op2.mk none none (Ins.st 1 (t 15) (cF 34))] (ac [aa 46 13,cO 47 (mkfn 39 [t 5,t 15]),aL 48 38 [t 46,t 47],cO 49 (un UnOp.not (t 48)),aa 6 49,cO 7 (mov (cN 0))] ret)))))))))
theorem H8:Is Tryz.prog 11 b11:=mkI Tryz.func11
def b13:F2:=(F2.mk 57 [RV.cn 4 2,RV.t 5] (ac [cO 2 (box (t 0)),cO 3 (box (t 1)),cO 4 (alloc (AV.agg [AV.esl,AV.esl])),cO 5 (mov (cN 0))] ((ac [aM 14 2 2,aL 15 44 [t 14],aa 6 15] (ac [aa 16 6,aq 17 .neq 16 0] (az 17 (ac [cO 18 (bld [AV.esl,AV.esl] []),aa 19 6,aV 2 4 18,aa 5 19] ret) skip))).seq (ac [aM 21 2 3,aL 22 25 [t 21],aa 20 22,bd 23 20 0,bd 24 20 1,aa 7 23,aa 8 24] ((ac [aa 25 8,aq 26 .neq 25 0] (az 26 (ac [cO 27 (bld [AV.esl,AV.esl] []),aa 28 8,aV 2 4 27,aa 5 28] ret) skip)).seq (ac [cf 29 0 2,aN 30 29,aL 31 45 [t 30],cO 32 (bld [AV.esl,AV.esl] [(0,1,t 31)]),cO 9 (alloc (AV.agg [AV.esl,AV.esl])),aV 2 9 32] ((ac [cf 33 1 2,aN 34 33,bn 35 34,cO 36 (mov (cN 0))] (block 0 (ac [aJ 37 .lss 36 35] ((az 37 skip (exit 0)).seq ((block 1 (ac [cO 38 (ixaS 2 (t 34) (t 36)),aM 39 2 38,cO 11 (alloc (AV.agg [aX,aX])),aV 2 11 39] (ac [aa 41 7,aM 42 2 11,cO 43 (Ins.mget (MK.st [int,int]) (AV.agg [aX,aX]) true (t 41) (t 42)),aa 40 43,bd 44 40 0,bd 45 40 1,cO 12 (alloc (AV.agg [aX,aX])),aV 2 12 44,aa 13 45] ((ac [aa 46 13,cO 47 (un UnOp.not (t 46))] (az 47 (ac [cO 48 (bld [AV.esl,AV.esl] []),aV 2 4 48,cO 5 (mov (cN 6))] ret) skip)).seq (ops 0 [cf 49 1 9,aN 50 49,aM 51 2 12,cO 52 (bldS 2 1 [aX,aX] [(0,2,t 51)]),cO 53 (app 2 16 (t 50) (t 52)),cf 54 1 9,aV 1 54 53]))))).seq (ops 0 [aq 55 .add 36 1,aa 36 55])))).loop)).seq (ac [aM 56 2 9,aV 2 4 56,cO 5 (mov (cN 0))] ret))))))))
theorem HY:Is Tryz.prog 13 b13:=mkI Tryz.func13
def b14:F2:=(F2.mk 10 [RV.t 4] (ac [cO 2 (box (t 0)),cO 3 (box (t 1)),cO 4 (mov a9)] (ac [cf 5 0 2,aN 6 5,cf 7 0 3,aN 8 7,aL 9 46 [t 6,t 8],aa 4 9] ret)))
theorem Ib:Is Tryz.prog 14 b14:=mkI Tryz.func14
def b15:F2:=(F2.mk 114 [RV.cn 8 2,RV.t 9] (ac [cO 4 (box (t 0)),cO 5 (box (t 1)),cO 6 (box (t 2)),cO 8 (alloc (AV.agg [aX,AV.esl])),cO 9 (mov (cN 0))] (ac [aM 24 2 4,aM 25 1 5,aM 26 1 6,aL 27 11 [t 24,t 25,t 26],aa 23 27,bd 28 23 0,bd 29 23 1,aa 10 28,aa 11 29] ((block 0 (ac [aa 31 11,aq 32 .neq 31 0,aa 30 32] (az 30 (ac [cO 33 (bld [aX,AV.esl] []),aa 34 11,aV 2 8 33,aa 9 34] ret) (ac [aa 36 10,cO 37 (un UnOp.not (t 36)),aa 35 37] (az 35 (ac [cO 38 (bld [aX,AV.esl] []),aV 2 8 38,cO 9 (mov (cN 22))] ret) (ac [aa 40 3,aq 41 .lss 40 0,aa 42 41,cQ 43 42 (cM 3),cQ 44 42 (cB .geq (t 43) (cN 8)),cO 45 (pick (t 42) dQ (t 44)),aa 39 45] (az 39 (ac [cO 46 (bld [aX,AV.esl] []),aV 2 8 46,cO 9 (mov (cN 2))] ret) skip))))))).seq (ac [aM 48 1 5,aa 49 3,aq 50 .add 49 1,aL 51 47 [t 48,t 50],aa 47 51,bd 52 47 0,bd 53 47 1,aa 12 52,aa 11 53] ((ac [aa 54 11,aq 55 .neq 54 0] (az 55 (ac [cO 56 (bld [aX,AV.esl] []),aa 57 11,aV 2 8 56,aa 9 57] ret) skip)).seq (ac [aM 59 1 6,aa 60 3,aq 61 .add 60 1,aL 62 47 [t 59,t 61],aa 58 62,bd 63 58 0,bd 64 58 1,aa 13 63,aa 11 64] ((ac [aa 65 11,aq 66 .neq 65 0] (az 66 (ac [cO 67 (bld [aX,AV.esl] []),aa 68 11,aV 2 8 67,aa 9 68] ret) skip)).seq (ac [aM 70 2 4,aL 71 25 [t 70],aa 69 71,bd 72 69 0,bd 73 69 1,aa 14 72,aa 15 73] (ac [aa 74 12,bn 75 74,aa 76 13,bn 77 76,cO 78 (mks 1 24 [AV.esl] (t 77) (t 77)),cO 79 (bld [aX,AV.esl] [(0,1,t 75),(1,1,t 78)]),cO 16 (alloc (AV.agg [aX,AV.esl])),aV 2 16 79] ((ac [aa 80 12,bn 81 80,cO 82 (mov (cN 0))] (block 1 (ac [aJ 83 .lss 82 81] ((az 83 skip (exit 1)).seq ((block 2 (ac [aa 84 82,cO 85 (ixaS 1 (t 80) (t 82)),aN 86 85,aa 17 84,aa 18 86] (ac [aa 88 14,aa 89 18,aL 90 30 [t 88,t 89],aa 87 90,bd 91 87 0,bd 92 87 1,aa 19 91,aa 20 92] (ac [aa 94 13,aa 95 19,aL 96 48 ([t 94,t 95,c (AV.func 49 [])]),aa 93 96,bd 97 93 0,bd 98 93 1,aa 21 97,aa 22 98] (ac [aa 99 22] (az 99 (mixS 2 [cf 100 1 16,aN 101 100,aa 102 21,cf 103 1 16,aN 104 103,aa 105 21,cO 106 (ixaS 1 (t 104) (t 105)),aN 107 106,aa 108 17,cO 109 (bldS 1 1 [aX] [(0,1,t 108)]),cO 110 (app 1 8 (t 107) (t 109)),cO 111 (ixaS 1 (t 101) (t 102)),aV 1 111 110] [(0,0),(1,0),(2,0),(3,0),(4,0),(5,0),(6,0),(7,0),(8,0),(9,1),(10,1),(11,0),(12,2)]) skip)))))).seq (ops 0 [aq 112 .add 82 1,aa 82 112])))).loop)).seq (ac [aM 113 2 16,aV 2 8 113,cO 9 (mov (cN 0))] ret))))))))))))
theorem HW:Is Tryz.prog 15 b15:=mkI Tryz.func15
def b16:F2:=(F2.mk 37 [RV.cn 4 2,RV.t 5] (ac [cO 2 (box (t 0)),cO 3 (box (t 1)),cO 4 (alloc (AV.agg [aX,AV.esl])),cO 5 (mov (cN 0))] ((ac [aM 9 2 2,aM 10 2 3,aL 11 50 [t 9,t 10],aa 6 11] (ac [aa 12 6,aq 13 .neq 12 0] (az 13 (ac [cO 14 (bld [aX,AV.esl] []),aa 15 6,aV 2 4 14,aa 5 15] ret) skip))).seq ((ac [cf 16 0 2,aN 17 16,cf 18 1 3,aN 19 18,bn 20 19,aJ 21 .neq 17 20] (az 21 (ac [cO 22 (bld [aX,AV.esl] []),aV 2 4 22,cO 5 (mov (cN 15))] ret) skip)).seq (ac [cf 23 0 3,aN 24 23,cO 25 (bld [aX,AV.esl] [(0,1,t 24)]),cO 7 (alloc (AV.agg [aX,AV.esl])),aV 2 7 25] ((ac [aM 26 2 2,aM 27 2 3,aL 28 51 [t 26,t 27]] (block 0 (rangeF (t 28) [29] (ops 0 [aa 8 29]) (block 1 (ops 0 [cf 30 1 7,aN 31 30,aa 32 8,cO 33 (bldS 1 1 [AV.esl] [(0,1,t 32)]),cO 34 (app 1 24 (t 31) (t 33)),cf 35 1 7,aV 1 35 34]))))).seq (ac [aM 36 2 7,aV 2 4 36,cO 5 (mov (cN 0))] ret)))))))
theorem HX:Is Tryz.prog 16 b16:=mkI Tryz.func16
def b17:F2:=(F2.mk 17 [RV.t 4] (ac [cO 2 (box (t 0)),cO 3 (box (t 1)),cO 4 (mov a9)] (ac [cf 5 0 2,aN 6 5,cf 7 0 3,aN 8 7,aJ 9 .eql 6 8,aa 10 9,al 11 10 (fa 1 (t 2)),al 12 10 (cD 11),al 13 10 (fa 1 (t 3)),al 14 10 (cD 13),al 15 10 (call (cF 52) [t 12,t 14,c (AV.func 53 [])]),cO 16 (pick (t 10) (t 15) a9),aa 4 16] ret)))
theorem Ie:Is Tryz.prog 17 b17:=mkI Tryz.func17
def b18:F2:=(F2.mk 87 [RV.cn 4 2,RV.t 5] (ac [cO 2 (box (t 0)),cO 4 (alloc (AV.agg [aX,AV.esl])),cO 5 (mov (cN 0))] ((ac [aM 16 1 2,aL 17 26 [t 16],aa 6 17] (ac [aa 18 6,aq 19 .neq 18 0] (az 19 (ac [cO 20 (bld [aX,AV.esl] []),aa 21 6,aV 2 4 20,aa 5 21] ret) skip))).seq ((ac [aa 22 1,aq 23 .lss 22 0,aa 24 23,cQ 25 24 (cM 1),cQ 26 24 (cB .geq (t 25) (cN 8)),cO 27 (pick (t 24) dQ (t 26))] (az 27 (ac [cO 28 (bld [aX,AV.esl] []),aV 2 4 28,cO 5 (mov (cN 2))] ret) skip)).seq (ac [aM 30 1 2,aa 31 1,aL 32 55 [t 30,t 31],aa 29 32,bd 33 29 0,bd 34 29 1,aa 7 33,aa 8 34] ((ac [aa 35 8,aq 36 .neq 35 0] (az 36 (ac [cO 37 (bld [aX,AV.esl] []),aa 38 8,aV 2 4 37,aa 5 38] ret) skip)).seq (ac [aM 40 1 2,aa 41 1,aq 42 .sub 41 1,aL 43 55 [t 40,t 42],aa 39 43,bd 44 39 0,bd 45 39 1,cO 9 (alloc AV.esl),aV 1 9 44,aa 8 45] ((ac [aa 46 8,aq 47 .neq 46 0] (az 47 (ac [cO 48 (bld [aX,AV.esl] []),aa 49 8,aV 2 4 48,aa 5 49] ret) skip)).seq (ac [aa 50 7,bn 51 50,aN 52 9,bn 53 52,cO 54 (mks 1 24 [AV.esl] (t 53) (t 53)),cO 55 (bld [aX,AV.esl] [(0,1,t 51),(1,1,t 54)]),cO 10 (alloc (AV.agg [aX,AV.esl])),aV 2 10 55] ((ac [aa 56 7,bn 57 56,cO 58 (mov (cN 0))] (block 0 (ac [aJ 59 .lss 58 57] ((az 59 skip (exit 0)).seq ((block 1 (ac [aa 60 58,cO 61 (ixaS 1 (t 56) (t 58)),aN 62 61,cO 11 (alloc (aX)),aV 1 11 60,aa 12 62] (ac [aa 63 12,aL 64 56 [t 63]] (block 2 (rangeF (t 64) [65] (ops 0 [aa 13 65]) (block 3 (ac [aN 67 9,aa 68 13,aL 69 57 [t 67,t 68],aa 66 69,bd 70 66 0,bd 71 66 1,aa 14 70,aa 15 71] (ac [aa 72 15] (az 72 (mixS 2 [cf 73 1 10,aN 74 73,aa 75 14,cf 76 1 10,aN 77 76,aa 78 14,cO 79 (ixaS 1 (t 77) (t 78)),aN 80 79,aN 81 11,cO 82 (bldS 1 1 [aX] [(0,1,t 81)]),cO 83 (app 1 8 (t 80) (t 82)),cO 84 (ixaS 1 (t 74) (t 75)),aV 1 84 83] [(0,0),(1,0),(2,0),(3,0),(4,0),(5,0),(6,0),(7,0),(8,0),(9,1),(10,1),(11,0),(12,2)]) skip))))))))).seq (ops 0 [aq 85 .add 58 1,aa 58 85])))).loop)).seq (ac [aM 86 2 10,aV 2 4 86,cO 5 (mov (cN 0))] ret)))))))))))
theorem IB:Is Tryz.prog 18 b18:=mkI Tryz.func18
def b19:F2:=(F2.mk 26 [RV.cn 4 1,RV.t 5] (ac [cO 2 (box (t 0)),cO 3 (box (t 1)),cO 4 (alloc (AV.agg [AV.esl])),cO 5 (mov (cN 0))] ((ac [aM 8 1 2,aN 9 3,aL 10 31 [t 8,t 9],aa 6 10] (ac [aa 11 6,aq 12 .neq 11 0] (az 12 (ac [cO 13 (bld [AV.esl] []),aa 14 6,aV 1 4 13,aa 5 14] ret) skip))).seq (ac [aM 15 1 2,aN 16 3,aL 17 32 [t 15,t 16],aa 7 17] ((ac [aa 18 7,bn 19 18,aq 20 .eql 19 0] (az 20 (ac [cO 21 (bld [AV.esl] []),aV 1 4 21,cO 5 (mov (cN 6))] ret) skip)).seq (ac [aa 22 7,cO 23 (mkfn 59 [t 3]),aL 24 58 [t 22,t 23],aL 25 33 [t 24],aV 1 4 25,cO 5 (mov (cN 0))] ret))))))
theorem HZ:Is Tryz.prog 19 b19:=mkI Tryz.func19
def b20:F2:=(F2.mk 26 [RV.t 4] (ac [cO 4 (mov a9)] ((ac [aa 6 0,bn 7 6,aa 8 1,bn 9 8,aJ 10 .neq 7 9] (az 10 (ac [cO 4 (mov a9)] ret) skip)).seq ((ac [aa 11 0,bn 12 11,cO 13 (mov (cN 0))] (block 0 (ac [aJ 14 .lss 13 12] ((az 14 skip (exit 0)).seq ((block 1 (ac [aa 15 13,aa 5 15] ((ops 1 [aa 16 0,aa 17 5,cO 18 (ixaS 2 (t 16) (t 17)),aM 19 2 18,aa 20 1,aa 21 5,cO 22 (ixaS 2 (t 20) (t 21)),aM 23 2 22,cO 24 (binS BinOp.neq [int,int] (t 19) (t 23))]).seq (az 24 (ac [cO 4 (mov a9)] ret) skip)))).seq (ops 0 [aq 25 .add 13 1,aa 13 25])))).loop)).seq (ac [cO 4 (mov dQ)] ret)))))
theorem Hh:Is Tryz.prog 20 b20:=mkI Tryz.func20
def b21:F2:=(F2.mk 38 [RV.t 2,RV.t 3] (ac [cO 1 (box (t 0)),cO 2 (mov (cN 0)),cO 3 (mov a9)] (ac [cO 4 (mov (cN ((-1)))),cO 5 (mov dQ)] ((ac [cO 6 (mov (cN 0))] (block 0 ((ac [aa 8 6,cf 9 0 1,aN 10 9,bn 11 10,aJ 12 .lss 8 11] (az 12 skip (exit 0))).seq ((block 1 (ac [cf 15 0 1,aN 16 15,aa 17 6,cO 18 (ixaS 1 (t 16) (t 17)),aN 19 18,bn 20 19,aq 21 .sub 20 1,aa 7 21] (ac [aa 22 5,aa 23 22,al 24 23 (cM 6),al 25 23 (cB .eql (t 24) (cN 0)),al 26 23 (cM 25),cQ 27 26 (cM 7),cQ 28 26 (cM 4),cQ 29 26 (cB .eql (t 27) (t 28)),al 30 23 (pick (t 26) dQ (t 29)),cO 31 (pick (t 23) (t 30) a9),aa 5 31] (ac [aa 32 7,aa 33 4,aJ 34 .gtr 32 33] (az 34 (ops 0 [aa 35 7,aa 4 35]) skip))))).seq (ops 0 [aa 13 6,aq 14 .add 13 1,aa 6 14]))).loop)).seq (ac [aa 36 4,aa 37 5,aa 2 36,aa 3 37] ret)))))
theorem HA:Is Tryz.prog 21 b21:=mkI Tryz.func21
def b22:F2:=(F2.mk 6 [RV.t 2] (ac [cO 1 (box (t 0)),cO 2 (mov a9)] (ac [cf 3 0 1,aN 4 3,aL 5 60 [t 4],aa 2 5] ret)))
theorem Ih:Is Tryz.prog 22 b22:=mkI Tryz.func22
def b23:F2:=(F2.mk 68 [RV.t 2] (ac [cO 1 (box (t 0)),cO 2 (mov (cN 0))] (ac [cf 8 0 1,aN 9 8,aa 3 9] ((ac [aa 10 3,bn 11 10,aq 12 .gtr 11 4096] (az 12 (ac [cO 2 (mov (cN 5))] ret) skip)).seq ((ac [cO 4 (mov (cN 0))] (block 0 ((ac [aa 13 4,aa 14 3,bn 15 14,aJ 16 .lss 13 15] (az 16 skip (exit 0))).seq ((block 1 ((ac [aa 19 3,aa 20 4,cO 21 (ixaS 1 (t 19) (t 20)),aN 22 21,aL 23 61 [t 22],aa 5 23] (ac [aa 24 5,aq 25 .neq 24 0] (az 25 (ac [aa 26 5,aa 2 26] ret) skip))).seq ((mixS 1 [aa 27 4,aq 28 .gtr 27 0,aa 29 28,al 30 29 (cM 3),al 31 29 (cM 4),al 32 29 (cB .sub (t 31) (cN 1)),al 33 29 (ixaS 1 (t 30) (t 32)),al 34 29 (cD 33),al 35 29 (cM 3),al 36 29 (cM 4),al 37 29 (ixaS 1 (t 35) (t 36)),al 38 29 (cD 37),al 39 29 (call (cF 62) [t 34,t 38]),al 40 29 (cB .geq (t 39) (cN 0)),cO 41 (pick (t 29) (t 40) a9)] [(0,0),(1,0),(2,0),(3,0),(4,0),(5,0),(6,0),(7,0),(8,0),(9,0),(10,0),(11,0),(12,2),(13,0),(14,0)]).seq (az 41 (ac [cO 2 (mov (cN 14))] ret) skip)))).seq (ops 0 [aa 17 4,aq 18 .add 17 1,aa 4 18]))).loop)).seq ((ac [cO 6 (mov (cN 0))] (block 2 ((ac [aa 42 6,aa 43 3,bn 44 43,aJ 45 .lss 42 44] (az 45 skip (exit 2))).seq ((block 3 (ac [cO 7 (mov (cN 0))] (block 4 ((ac [aa 48 7,aa 49 3,bn 50 49,aJ 51 .lss 48 50] (az 51 skip (exit 4))).seq ((block 5 ((mixS 1 [aa 54 6,aa 55 7,aJ 56 .neq 54 55,aa 57 56,al 58 57 (cM 3),al 59 57 (cM 6),al 60 57 (ixaS 1 (t 58) (t 59)),al 61 57 (cD 60),al 62 57 (cM 3),al 63 57 (cM 7),al 64 57 (ixaS 1 (t 62) (t 63)),al 65 57 (cD 64),al 66 57 (call (cF 63) [t 61,t 65]),cO 67 (pick (t 57) (t 66) a9)] [(0,0),(1,0),(2,0),(3,0),(4,0),(5,0),(6,0),(7,0),(8,0),(9,0),(10,0),(11,0),(12,2),(13,0)]).seq (az 67 (ac [cO 2 (mov (cN 7))] ret) skip))).seq (ops 0 [aa 52 7,aq 53 .add 52 1,aa 7 53]))).loop))).seq (ops 0 [aa 46 6,aq 47 .add 46 1,aa 6 47]))).loop)).seq (ac [cO 2 (mov (cN 0))] ret)))))))
theorem Ip:Is Tryz.prog 23 b23:=mkI Tryz.func23
def b24:F2:=(F2.mk 13 [RV.t 2,RV.t 3] (ac [cO 1 (box (t 0)),cO 2 (mov (c AV.esl)),cO 3 (mov (cN 0))] ((ac [aM 5 1 1,aL 6 26 [t 5],aa 4 6] (ac [aa 7 4,aq 8 .neq 7 0] (az 8 (ac [aa 9 4,cO 2 (mov (c AV.esl)),aa 3 9] ret) skip))).seq (ac [cf 10 0 1,aN 11 10,aL 12 64 [t 11],aa 2 12,cO 3 (mov (cN 0))] ret))))
theorem II:Is Tryz.prog 24 b24:=mkI Tryz.func24
def b25:F2:=(F2.mk 31 [RV.t 2,RV.t 3] (ac [cO 1 (box (t 0)),cO 2 (mov (c AV.nilm)),cO 3 (mov (cN 0))] ((ac [aM 8 2 1,aL 9 44 [t 8],aa 4 9] (ac [aa 10 4,aq 11 .neq 10 0] (az 11 (ac [aa 12 4,cO 2 (mov (c AV.nilm)),aa 3 12] ret) skip))).seq (ac [cO 13 (mkm none),aa 5 13] ((ac [cf 14 0 1,aN 15 14,bn 16 15,cO 17 (mov (cN 0))] (block 0 (ac [aJ 18 .lss 17 16] ((az 18 skip (exit 0)).seq ((block 1 (ac [aa 19 17,cO 20 (ixaS 2 (t 15) (t 17)),aM 21 2 20,cO 7 (alloc (AV.agg [aX,aX])),aa 6 19,aV 2 7 21] (mixS 9 [aa 22 5,aM 23 2 7,cf 24 1 1,aN 25 24,aa 26 6,cO 27 (ixaS 2 (t 25) (t 26)),aM 28 2 27,Op2.mk none none (mput (MK.st [int,int]) (t 22) (t 23) (t 28))] [(0,0),(1,0),(2,0),(3,0),(4,0),(5,0),(6,0),(7,2)]))).seq (ops 0 [aq 29 .add 17 1,aa 17 29])))).loop)).seq (ac [aa 30 5,aa 2 30,cO 3 (mov (cN 0))] ret))))))
theorem GV:Is Tryz.prog 25 b25:=mkI Tryz.func25
def b26:F2:=(F2.mk 60 [RV.t 2] (ac [cO 1 (box (t 0)),cO 2 (mov (cN 0))] ((ac [cf 9 0 1,aN 10 9,bn 11 10,aq 12 .gtr 11 4096] (az 12 (ac [cO 2 (mov (cN 5))] ret) skip)).seq ((ac [cf 13 0 1,aN 14 13,bn 15 14,cO 16 (mov (cN 0))] (block 0 (ac [aJ 17 .lss 16 15] ((az 17 skip (exit 0)).seq ((block 1 (ac [aa 18 16,cO 19 (ixaS 1 (t 14) (t 16)),aN 20 19,aa 3 18,aa 4 20] ((ac [aa 21 4,aL 22 29 [t 21],aa 5 22] (ac [aa 23 5,aq 24 .neq 23 0] (az 24 (ac [aa 25 5,aa 2 25] ret) skip))).seq (ac [aa 26 3,aq 27 .gtr 26 0,aa 28 27,al 29 28 (fa 0 (t 1)),al 30 28 (cD 29),al 31 28 (cM 3),al 32 28 (cB .sub (t 31) (cN 1)),al 33 28 (ixaS 1 (t 30) (t 32)),al 34 28 (cD 33),al 35 28 (cM 4),al 36 28 (call (cF 49) [t 34,t 35]),al 37 28 (cB .geq (t 36) (cN 0)),cO 38 (pick (t 28) (t 37) a9)] (az 38 (ac [cO 2 (mov (cN 14))] ret) skip))))).seq (ops 0 [aq 39 .add 16 1,aa 16 39])))).loop)).seq (ac [cf 40 0 1,aN 41 40,aL 42 65 [t 41],aa 6 42] ((ac [cf 43 0 1,aN 44 43,bn 45 44,cO 46 (mov (cN 0))] (block 2 (ac [aJ 47 .lss 46 45] ((az 47 skip (exit 2)).seq ((block 3 (ac [cO 48 (ixaS 1 (t 44) (t 46)),aN 49 48,aa 8 49] ((mixS 9 [cf 50 0 1,aN 51 50,aa 52 6,aa 53 8,cO 54 (ixaS 2 (t 53) (cN 0)),aM 55 2 54,cO 56 (Ins.mget (MK.st [int,int]) AV.esl false (t 52) (t 55)),aa 57 8,aL 58 66 [t 51,t 56,t 57]] [(0,0),(1,0),(2,0),(3,0),(4,0),(5,0),(7,0),(6,1),(8,2)]).seq (az 58 (ac [cO 2 (mov (cN 7))] ret) skip)))).seq (ops 0 [aq 59 .add 46 1,aa 46 59])))).loop)).seq (ac [cO 2 (mov (cN 0))] ret)))))))
theorem Gi:Is Tryz.prog 26 b26:=mkI Tryz.func26
def b27:F2:=(F2.mk 32 [RV.t 4,RV.t 5] (ac [cO 3 (box (t 1)),cO 4 (mov (c AV.esl)),cO 5 (mov a9)] (ac [cO 6 (mov (c AV.esl))] ((ac [cf 11 0 3,aN 12 11,bn 13 12,cO 14 (mov (cN 0))] (block 0 (ac [aJ 15 .lss 14 13] ((az 15 skip (exit 0)).seq ((block 1 (ac [cO 16 (ixaS 1 (t 12) (t 14)),aN 17 16,aa 8 17] (ac [aa 19 0,aa 20 8,aL 21 30 [t 19,t 20],aa 18 21,bd 22 18 0,bd 23 18 1,aa 9 22,aa 10 23] ((ac [aa 24 10,cO 25 (un UnOp.not (t 24))] (az 25 (ac [cO 4 (mov (c AV.esl)),cO 5 (mov a9)] ret) skip)).seq (ops 0 [aa 26 6,aa 27 9,cO 28 (bldS 1 1 [AV.esl] [(0,1,t 27)]),cO 29 (app 1 24 (t 26) (t 28)),aa 6 29]))))).seq (ops 0 [aq 30 .add 14 1,aa 14 30])))).loop)).seq (ac [aa 31 6,aa 4 31,cO 5 (mov dQ)] ret)))))
theorem Gg:Is Tryz.prog 27 b27:=mkI Tryz.func27
def b28:F2:=(F2.mk 26 [RV.cn 2 1,RV.t 3] (ac [cO 2 (alloc (AV.agg [AV.esl])),cO 3 (mov (cN 0))] ((ac [aa 7 0,bn 8 7,aq 9 .gtr 8 4096] (az 9 (ac [cO 10 (bld [AV.esl] []),aV 1 2 10,cO 3 (mov (cN 5))] ret) skip)).seq ((ac [aa 11 0,bn 12 11,cO 13 (mov (cN 0))] (block 0 (ac [aJ 14 .lss 13 12] ((az 14 skip (exit 0)).seq ((block 1 (ac [cO 15 (ixaS 1 (t 11) (t 13)),aN 16 15,aa 5 16] (ac [aa 17 5,aL 18 29 [t 17],aa 6 18] (ac [aa 19 6,aq 20 .neq 19 0] (az 20 (ac [cO 21 (bld [AV.esl] []),aa 22 6,aV 1 2 21,aa 3 22] ret) skip))))).seq (ops 0 [aq 23 .add 13 1,aa 13 23])))).loop)).seq (ac [aa 24 0,aL 25 33 [t 24],aV 1 2 25,cO 3 (mov (cN 0))] ret)))))
theorem Gc:Is Tryz.prog 28 b28:=mkI Tryz.func28
def b29:F2:=(F2.mk 36 [RV.t 2] (ac [cO 2 (mov (cN 0))] ((block 0 (ac [aa 6 0,bn 7 6,aq 8 .eql 7 0,aa 5 8] (az 5 (ac [cO 2 (mov (cN 16))] ret) (ac [aa 10 0,bn 11 10,aq 12 .gtr 11 8,aa 9 12] (az 9 (ac [cO 2 (mov (cN 5))] ret) skip))))).seq ((ac [aa 13 0,bn 14 13,cO 15 (mov (cN 0))] (block 1 (ac [aJ 16 .lss 15 14] ((az 16 skip (exit 1)).seq ((block 2 (ac [aa 17 15,cO 18 (ixaS 2 (t 13) (t 15)),aM 19 2 18,cO 4 (alloc (AV.agg [aX,aX])),aa 3 17,aV 2 4 19] ((ac [aM 20 2 4,aL 21 67 [t 20],cO 22 (un UnOp.not (t 21))] (az 22 (ac [cO 2 (mov (cN 2))] ret) skip)).seq ((mixS 1 [aa 23 3,aq 24 .gtr 23 0,aa 25 24,al 26 25 (cM 0),al 27 25 (cM 3),al 28 25 (cB .sub (t 27) (cN 1)),al 29 25 (ixaS 2 (t 26) (t 28)),al 30 25 (ldn 2 (t 29)),al 31 25 (ldn 2 (t 4)),al 32 25 (call (cF 68) [t 30,t 31]),al 33 25 (cB .geq (t 32) (cN 0)),cO 34 (pick (t 25) (t 33) a9)] [(0,0),(1,0),(2,0),(3,0),(4,0),(5,0),(6,0),(7,0),(8,0),(9,2),(10,0),(11,0)]).seq (az 34 (ac [cO 2 (mov (cN 14))] ret) skip))))).seq (ops 0 [aq 35 .add 15 1,aa 15 35])))).loop)).seq (ac [cO 2 (mov (cN 0))] ret)))))
theorem Gq:Is Tryz.prog 29 b29:=mkI Tryz.func29
def b30:F2:=(F2.mk 34 [RV.t 4,RV.t 5] (ac [cO 4 (mov (c AV.esl)),cO 5 (mov a9)] (ac [cO 6 (mov (c AV.esl))] ((ac [aa 11 1,bn 12 11,cO 13 (mov (cN 0))] (block 0 (ac [aJ 14 .lss 13 12] ((az 14 skip (exit 0)).seq ((block 1 (ac [cO 15 (ixaS 2 (t 11) (t 13)),aM 16 2 15,cO 8 (alloc (AV.agg [aX,aX])),aV 2 8 16] (ac [aa 18 0,aM 19 2 8,cO 20 (Ins.mget (MK.st [int,int]) (AV.agg [aX,aX]) true (t 18) (t 19)),aa 17 20,bd 21 17 0,bd 22 17 1,cO 9 (alloc (AV.agg [aX,aX])),aV 2 9 21,aa 10 22] ((ac [aa 23 10,cO 24 (un UnOp.not (t 23))] (az 24 (ac [cO 4 (mov (c AV.esl)),cO 5 (mov a9)] ret) skip)).seq (ops 0 [aa 25 6,aM 26 2 9,cO 27 (bldS 2 1 [aX,aX] [(0,2,t 26)]),cO 28 (app 2 16 (t 25) (t 27)),aa 6 28]))))).seq (ops 0 [aq 29 .add 13 1,aa 13 29])))).loop)).seq (ac [aa 30 6,aL 31 69 ([t 30,c (AV.func 70 [])])] (ac [aa 32 6,aL 33 71 [t 32],aa 4 33,cO 5 (mov dQ)] ret))))))
theorem G0:Is Tryz.prog 30 b30:=mkI Tryz.func30
def b31:F2:=(F2.mk 13 [RV.t 4] (ac [cO 2 (box (t 0)),cO 4 (mov (cN 0))] ((ac [aM 6 1 2,aL 7 26 [t 6],aa 5 7] (ac [aa 8 5,aq 9 .neq 8 0] (az 9 (ac [aa 10 5,aa 4 10] ret) skip))).seq (ac [aa 11 1,aL 12 29 [t 11],aa 4 12] ret))))
theorem IA:Is Tryz.prog 31 b31:=mkI Tryz.func31
def b32:F2:=(F2.mk 9 [RV.t 4] (ac [cO 2 (box (t 0)),cO 3 (box (t 1)),cO 4 (mov (c AV.esl))] (ac [cf 5 0 2,aN 6 5,cO 7 (mkfn 73 [t 3]),aL 8 72 [t 6,t 7],aa 4 8] ret)))
theorem HG:Is Tryz.prog 32 b32:=mkI Tryz.func32
def b33:F2:=(F2.mk 39 [RV.cn 2 1] (ac [cO 2 (alloc (AV.agg [AV.esl]))] (ac [aa 7 0,aL 8 75 [t 7],aa 0 8] (ac [aa 9 0,aL 10 76 ([t 9,c (AV.func 49 [])])] (ac [aa 11 0,aL 12 77 ([t 11,c (AV.func 20 [])]),aa 0 12] (ac [aa 13 0,aL 14 65 [t 13],aa 3 14] (ac [cO 4 (alloc (AV.agg [AV.esl]))] ((ac [aa 15 0,bn 16 15,cO 17 (mov (cN 0))] (block 0 (ac [aJ 18 .lss 17 16] ((az 18 skip (exit 0)).seq ((block 1 (ac [cO 19 (ixaS 1 (t 15) (t 17)),aN 20 19,aa 6 20] (ac [aa 21 0,aa 22 3,aa 23 6,cO 24 (ixaS 2 (t 23) (cN 0)),aM 25 2 24,cO 26 (Ins.mget (MK.st [int,int]) AV.esl false (t 22) (t 25)),aa 27 6,aL 28 66 [t 21,t 26,t 27],cO 29 (un UnOp.not (t 28))] (az 29 (mixS 1 [cf 30 0 4,aN 31 30,aa 32 6,aL 33 45 [t 32],cO 34 (bldS 1 1 [AV.esl] [(0,1,t 33)]),cO 35 (app 1 24 (t 31) (t 34)),cf 36 0 4,aV 1 36 35] [(0,0),(1,0),(2,0),(3,1),(4,1),(5,2),(6,0),(7,2)]) skip)))).seq (ops 0 [aq 37 .add 17 1,aa 17 37])))).loop)).seq (ac [aM 38 1 4,aV 1 2 38] ret)))))))))
theorem Ho:Is Tryz.prog 33 b33:=mkI Tryz.func33
def b34:F2:=(F2.mk 9 [RV.t 4] (ac [cO 3 (box (t 1)),cO 4 (mov a9)] (ac [aa 5 0,cO 6 (mkfn 36 [t 3]),aL 7 35 [t 5,t 6],cO 8 (un UnOp.not (t 7)),aa 4 8] ret)))
theorem HK:Is Tryz.prog 34 b34:=mkI Tryz.func34
def b35:F2:=(F2.mk 9 [RV.t 4] (ac [cO 4 (mov a9)] (ac [aa 5 0,aa 6 1,aL 7 78 [t 5,t 6],aq 8 .geq 7 0,aa 4 8] ret)))
theorem HR:Is Tryz.prog 35 b35:=mkI Tryz.func35
def b36:F2:=(F2.mk 8 [RV.t 3] (ac [cO 2 (box (t 0)),cO 3 (mov a9)] (ac [aN 4 1,aM 5 2 2,aL 6 37 [t 4,t 5],cO 7 (un UnOp.not (t 6)),aa 3 7] ret)))
theorem HC:Is Tryz.prog 36 b36:=mkI Tryz.func36
def b37:F2:=(F2.mk 9 [RV.t 4] (ac [cO 3 (box (t 1)),cO 4 (mov a9)] (ac [aa 5 0,aM 6 2 3,aL 7 79 [t 5,t 6],aq 8 .geq 7 0,aa 4 8] ret)))
theorem GG:Is Tryz.prog 37 b37:=mkI Tryz.func37
def b38:F2:=(F2.mk 9 [RV.t 4] (ac [cO 4 (mov a9)] (ac [aa 5 0,aa 6 1,aL 7 80 [t 5,t 6],aq 8 .geq 7 0,aa 4 8] ret)))
theorem HB:Is Tryz.prog 38 b38:=mkI Tryz.func38
def b39:F2:=(F2.mk 10 [RV.t 4] (ac [cO 3 (box (t 0)),cO 4 (mov a9)] (ac [cf 5 0 1,aN 6 5,cO 7 (mkfn 40 [t 2,t 3]),aL 8 38 [t 6,t 7],cO 9 (un UnOp.not (t 8)),aa 4 9] ret)))
theorem IK:Is Tryz.prog 39 b39:=mkI Tryz.func39
def b40:F2:=(F2.mk 9 [RV.t 4] (ac [cO 4 (mov a9)] (ac [aN 5 1,aN 6 2,aa 7 0,cO 8 (call (t 5) [t 6,t 7]),aa 4 8] ret)))
theorem H7:Is Tryz.prog 40 b40:=mkI Tryz.func40
def b44:F2:=(F2.mk 54 [RV.t 2] (ac [cO 1 (box (t 0)),cO 2 (mov (cN 0))] ((block 0 (ac [cf 6 0 1,aN 7 6,bn 8 7,aq 9 .gtr 8 4096,aa 5 9] (az 5 (ac [cO 2 (mov (cN 5))] ret) (ac [cf 11 1 1,aN 12 11,bn 13 12,cf 14 0 1,aN 15 14,bn 16 15,aJ 17 .neq 13 16,aa 10 17] (az 10 (ac [cO 2 (mov (cN 15))] ret) skip))))).seq ((ac [cf 18 0 1,aN 19 18,bn 20 19,cO 21 (mov (cN 0))] (block 1 (ac [aJ 22 .lss 21 20] ((az 22 skip (exit 1)).seq ((block 2 (ac [aa 23 21,cO 24 (ixaS 2 (t 19) (t 21)),aM 25 2 24,cO 4 (alloc (AV.agg [aX,aX])),aa 3 23,aV 2 4 25] (block 3 (ac [aM 27 2 4,aL 28 83 [t 27],cO 29 (un UnOp.not (t 28)),aa 30 29,cQ 31 30 (fa 1 (t 1)),cQ 32 30 (cD 31),cQ 33 30 (cM 3),cQ 34 30 (ixaS 2 (t 32) (t 33)),cQ 35 30 (ldn 2 (t 34)),cQ 36 30 (call (cF 83) [t 35]),cQ 37 30 (un UnOp.not (t 36)),cO 38 (pick (t 30) dQ (t 37)),aa 26 38] (az 26 (ac [cO 2 (mov (cN 2))] ret) ((mixS 1 [aa 40 3,aq 41 .gtr 40 0,aa 42 41,al 43 42 (fa 0 (t 1)),al 44 42 (cD 43),al 45 42 (cM 3),al 46 42 (cB .sub (t 45) (cN 1)),al 47 42 (ixaS 2 (t 44) (t 46)),al 48 42 (ldn 2 (t 47)),al 49 42 (ldn 2 (t 4)),al 50 42 (call (cF 70) [t 48,t 49]),al 51 42 (cB .geq (t 50) (cN 0)),cO 52 (pick (t 42) (t 51) a9),aa 39 52] [(0,0),(1,0),(2,0),(3,0),(4,0),(5,0),(6,0),(7,0),(8,0),(9,0),(10,2),(11,0),(12,0),(13,0)]).seq (az 39 (ac [cO 2 (mov (cN 14))] ret) skip))))))).seq (ops 0 [aq 53 .add 21 1,aa 21 53])))).loop)).seq (ac [cO 2 (mov (cN 0))] ret)))))
theorem Gu:Is Tryz.prog 44 b44:=mkI Tryz.func44
def b45:F2:=(F2.mk 8 [RV.t 2] (ac [cO 2 (mov (c AV.esl))] ((ac [aa 3 0,cO 4 (snil false (t 3))] (az 4 (ac [cO 2 (mov (c AV.esl))] ret) skip)).seq (ac [cO 5 (bldS 2 0 [aX,aX] []),aa 6 0,cO 7 (app 2 16 (t 5) (t 6)),aa 2 7] ret))))
theorem EF:Is Tryz.prog 45 b45:=mkI Tryz.func45
def b46:F2:=(F2.mk 27 [RV.t 4] (ac [cO 4 (mov a9)] ((ac [aa 6 0,bn 7 6,aa 8 1,bn 9 8,aJ 10 .neq 7 9] (az 10 (ac [cO 4 (mov a9)] ret) skip)).seq ((ac [cO 5 (mov (cN 0))] (block 0 ((ac [aa 11 5,aa 12 0,bn 13 12,aJ 14 .lss 11 13] (az 14 skip (exit 0))).seq ((block 1 ((mixS 1 [aa 17 0,aa 18 5,cO 19 (ixaS 1 (t 17) (t 18)),aN 20 19,aa 21 1,aa 22 5,cO 23 (ixaS 1 (t 21) (t 22)),aN 24 23,aL 25 84 [t 20,t 24],cO 26 (un UnOp.not (t 25))] [(0,0),(1,0),(2,0),(3,0),(4,0),(5,0),(6,0),(7,0),(8,2),(9,0)]).seq (az 26 (ac [cO 4 (mov a9)] ret) skip))).seq (ops 0 [aa 15 5,aq 16 .add 15 1,aa 5 16]))).loop)).seq (ac [cO 4 (mov dQ)] ret)))))
theorem HF:Is Tryz.prog 46 b46:=mkI Tryz.func46
def b47:F2:=(F2.mk 24 [RV.t 4,RV.t 5] (ac [cO 2 (box (t 0)),cO 4 (mov (c AV.esl)),cO 5 (mov (cN 0))] ((ac [aM 7 1 2,aL 8 26 [t 7],aa 6 8] (ac [aa 9 6,aq 10 .neq 9 0] (az 10 (ac [aa 11 6,cO 4 (mov (c AV.esl)),aa 5 11] ret) skip))).seq ((ac [aa 12 1,aq 13 .lss 12 1,aa 14 13,cQ 15 14 (cM 1),cQ 16 14 (cB .gtr (t 15) (cN 8)),cO 17 (pick (t 14) dQ (t 16))] (az 17 (ac [cO 4 (mov (c AV.esl)),cO 5 (mov (cN 2))] ret) skip)).seq (ac [cf 18 0 2,aN 19 18,aa 20 1,aL 21 85 [t 19,t 20],bd 22 21 0,bd 23 21 1,aa 4 22,aa 5 23] ret)))))
theorem IG:Is Tryz.prog 47 b47:=mkI Tryz.func47
def b48:F2:=(F2.mk 14 [RV.t 6,RV.t 7] (ac [cO 6 (mov (cN 0)),cO 7 (mov a9)] (ac [aa 8 0,aa 9 1,aa 10 2,aL 11 86 [t 8,t 9,t 10],bd 12 11 0,bd 13 11 1,aa 6 12,aa 7 13] ret)))
theorem IL:Is Tryz.prog 48 b48:=mkI Tryz.func48
def b49:F2:=(F2.mk 8 [RV.t 4] (ac [cO 4 (mov (cN 0))] (ac [aa 5 0,aa 6 1,aL 7 87 ([t 5,t 6,c (AV.func 68 [])]),aa 4 7] ret)))
theorem Hc:Is Tryz.prog 49 b49:=mkI Tryz.func49
def b50:F2:=(F2.mk 13 [RV.t 4] (ac [cO 2 (box (t 0)),cO 3 (box (t 1)),cO 4 (mov (cN 0))] ((ac [aM 6 2 2,aL 7 88 [t 6],aa 5 7] (ac [aa 8 5,aq 9 .neq 8 0] (az 9 (ac [aa 10 5,aa 4 10] ret) skip))).seq (ac [aM 11 2 3,aL 12 88 [t 11],aa 4 12] ret))))
theorem Ic:Is Tryz.prog 50 b50:=mkI Tryz.func50
def b51:F2:=(F2.mk 6 [RV.t 4] (ac [cO 2 (box (t 0)),cO 3 (box (t 1)),cO 4 (mov (c AV.nilf))] (ac [cO 5 (mkfn 89 [t 2,t 3]),aa 4 5] ret)))
theorem HD:Is Tryz.prog 51 b51:=mkI Tryz.func51
def b52:F2:=(F2.mk 32 [RV.t 6] (ac [cO 6 (mov a9)] ((ac [aa 10 0,bn 11 10,aa 12 1,bn 13 12,aJ 14 .neq 11 13] (az 14 (ac [cO 6 (mov a9)] ret) skip)).seq ((ac [aa 15 0,bn 16 15,cO 17 (mov (cN 0))] (block 0 (ac [aJ 18 .lss 17 16] ((az 18 skip (exit 0)).seq ((block 1 (ac [aa 19 17,cO 20 (ixaS 1 (t 15) (t 17)),aN 21 20,aa 7 19,aa 8 21] (ac [aa 22 1,aa 23 7,cO 24 (ixaS 1 (t 22) (t 23)),aN 25 24,aa 9 25] (ac [aa 26 2,aa 27 8,aa 28 9,cO 29 (call (t 26) [t 27,t 28]),cO 30 (un UnOp.not (t 29))] (az 30 (ac [cO 6 (mov a9)] ret) skip))))).seq (ops 0 [aq 31 .add 17 1,aa 17 31])))).loop)).seq (ac [cO 6 (mov dQ)] ret)))))
theorem IJ:Is Tryz.prog 52 b52:=mkI Tryz.func52
def b53:F2:=(F2.mk 8 [RV.t 4] (ac [cO 4 (mov a9)] (ac [aa 5 0,aa 6 1,aL 7 54 [t 5,t 6],aa 4 7] ret)))
theorem Ix:Is Tryz.prog 53 b53:=mkI Tryz.func53
def b54:F2:=(F2.mk 26 [RV.t 4] (ac [cO 4 (mov a9)] ((ac [aa 6 0,bn 7 6,aa 8 1,bn 9 8,aJ 10 .neq 7 9] (az 10 (ac [cO 4 (mov a9)] ret) skip)).seq ((ac [aa 11 0,bn 12 11,cO 13 (mov (cN 0))] (block 0 (ac [aJ 14 .lss 13 12] ((az 14 skip (exit 0)).seq ((block 1 (ac [aa 15 13,aa 5 15] ((ops 1 [aa 16 0,aa 17 5,cO 18 (ixaS 1 (t 16) (t 17)),aN 19 18,aa 20 1,aa 21 5,cO 22 (ixaS 1 (t 20) (t 21)),aN 23 22,aJ 24 .neq 19 23]).seq (az 24 (ac [cO 4 (mov a9)] ret) skip)))).seq (ops 0 [aq 25 .add 13 1,aa 13 25])))).loop)).seq (ac [cO 4 (mov dQ)] ret)))))
theorem Ik:Is Tryz.prog 54 b54:=mkI Tryz.func54
def b55:F2:=(F2.mk 14 [RV.t 4,RV.t 5] (ac [cO 2 (box (t 0)),cO 4 (mov (c AV.esl)),cO 5 (mov (cN 0))] ((ac [aa 6 1,aq 7 .lss 6 0] (az 7 (ac [cO 4 (mov (c AV.esl)),cO 5 (mov (cN 0))] ret) skip)).seq (ac [aM 8 1 2,aa 9 1,aq 10 .add 9 1,aL 11 47 [t 8,t 10],bd 12 11 0,bd 13 11 1,aa 4 12,aa 5 13] ret))))
theorem HP:Is Tryz.prog 55 b55:=mkI Tryz.func55
def b56:F2:=(F2.mk 4 [RV.t 2] (ac [cO 1 (box (t 0)),cO 2 (mov (c AV.nilf))] (ac [cO 3 (mkfn 91 [t 1]),aa 2 3] ret)))
theorem Iw:Is Tryz.prog 56 b56:=mkI Tryz.func56
def b57:F2:=(F2.mk 11 [RV.t 4,RV.t 5] (ac [cO 4 (mov (cN 0)),cO 5 (mov a9)] (ac [aa 6 0,aa 7 1,aL 8 86 ([t 6,t 7,c (AV.func 49 [])]),bd 9 8 0,bd 10 8 1,aa 4 9,aa 5 10] ret)))
theorem It:Is Tryz.prog 57 b57:=mkI Tryz.func57
def b58:F2:=(F2.mk 27 [RV.t 4] (ac [cO 4 (mov (c AV.esl))] (ac [cO 5 (mov (c AV.esl))] ((ac [aa 9 0,bn 10 9,cO 11 (mov (cN 0))] (block 0 (ac [aJ 12 .lss 11 10] ((az 12 skip (exit 0)).seq ((block 1 (ac [cO 13 (ixaS 1 (t 9) (t 11)),aN 14 13,aa 7 14] (ac [aa 15 7,aa 16 1,aL 17 93 [t 15,t 16],aa 8 17] (ac [aa 18 8,bn 19 18,aq 20 .gtr 19 0] (az 20 (ops 0 [aa 21 5,aa 22 8,cO 23 (bldS 1 1 [AV.esl] [(0,1,t 22)]),cO 24 (app 1 24 (t 21) (t 23)),aa 5 24]) skip))))).seq (ops 0 [aq 25 .add 11 1,aa 11 25])))).loop)).seq (ac [aa 26 5,aa 4 26] ret)))))
theorem HQ:Is Tryz.prog 58 b58:=mkI Tryz.func58
def b59:F2:=(F2.mk 8 [RV.t 3] (ac [cO 2 (box (t 0)),cO 3 (mov a9)] (ac [aN 4 1,aM 5 2 2,aL 6 37 [t 4,t 5],cO 7 (un UnOp.not (t 6)),aa 3 7] ret)))
theorem IE:Is Tryz.prog 59 b59:=mkI Tryz.func59
def b60:F2:=(F2.mk 19 [RV.t 2] (ac [cO 2 (mov a9)] ((ac [aa 4 0,bn 5 4,aq 6 .gtr 5 30] (az 6 (ac [cO 2 (mov a9)] ret) skip)).seq ((ac [cO 3 (mov (cN 0))] (block 0 ((ac [aa 7 3,aa 8 0,bn 9 8,aJ 10 .lss 7 9] (az 10 skip (exit 0))).seq ((block 1 (ac [aa 13 0,aa 14 3,cO 15 (ixaS 1 (t 13) (t 14)),aN 16 15,aL 17 94 [t 16],cO 18 (un UnOp.not (t 17))] (az 18 (ac [cO 2 (mov a9)] ret) skip))).seq (ops 0 [aa 11 3,aq 12 .add 11 1,aa 3 12]))).loop)).seq (ac [cO 2 (mov dQ)] ret)))))
theorem Ia:Is Tryz.prog 60 b60:=mkI Tryz.func60
def b61:F2:=(F2.mk 39 [RV.t 2] (ac [cO 2 (mov (cN 0))] ((block 0 (ac [aa 5 0,bn 6 5,aq 7 .eql 6 0,aa 4 7] (az 4 (ac [cO 2 (mov (cN 16))] ret) (ac [aa 9 0,bn 10 9,aq 11 .gtr 10 8,aa 8 11] (az 8 (ac [cO 2 (mov (cN 5))] ret) skip))))).seq ((ac [cO 3 (mov (cN 0))] (block 1 ((ac [aa 12 3,aa 13 0,bn 14 13,aJ 15 .lss 12 14] (az 15 skip (exit 1))).seq ((block 2 ((ac [aa 18 0,aa 19 3,cO 20 (ixaS 2 (t 18) (t 19)),aM 21 2 20,aL 22 95 [t 21],cO 23 (un UnOp.not (t 22))] (az 23 (ac [cO 2 (mov (cN 2))] ret) skip)).seq ((mixS 1 [aa 24 3,aq 25 .gtr 24 0,aa 26 25,al 27 26 (cM 0),al 28 26 (cM 3),al 29 26 (cB .sub (t 28) (cN 1)),al 30 26 (ixaS 2 (t 27) (t 29)),al 31 26 (ldn 2 (t 30)),al 32 26 (cM 0),al 33 26 (cM 3),al 34 26 (ixaS 2 (t 32) (t 33)),al 35 26 (ldn 2 (t 34)),al 36 26 (call (cF 96) [t 31,t 35]),al 37 26 (cB .geq (t 36) (cN 0)),cO 38 (pick (t 26) (t 37) a9)] [(0,0),(1,0),(2,0),(3,0),(4,0),(5,0),(6,0),(7,0),(8,0),(9,0),(10,0),(11,0),(12,2),(13,0),(14,0)]).seq (az 38 (ac [cO 2 (mov (cN 14))] ret) skip)))).seq (ops 0 [aa 16 3,aq 17 .add 16 1,aa 3 17]))).loop)).seq (ac [cO 2 (mov (cN 0))] ret)))))
theorem HO:Is Tryz.prog 61 b61:=mkI Tryz.func61
def b62:F2:=(F2.mk 43 [RV.t 4] (ac [cO 4 (mov (cN 0))] ((ac [cO 5 (mov (cN 0))] (block 0 ((ac [aa 7 5,aa 8 0,bn 9 8,aJ 10 .lss 7 9,aa 11 10,al 12 11 (cM 5),al 13 11 (cM 1),al 14 11 (lenS (t 13)),al 15 11 (cB .lss (t 12) (t 14)),cO 16 (pick (t 11) (t 15) a9)] (az 16 skip (exit 0))).seq ((block 1 ((mixS 1 [aa 19 0,aa 20 5,cO 21 (ixaS 2 (t 19) (t 20)),aM 22 2 21,aa 23 1,aa 24 5,cO 25 (ixaS 2 (t 23) (t 24)),aM 26 2 25,aL 27 96 [t 22,t 26],aa 6 27] [(0,0),(1,0),(2,0),(3,0),(4,0),(5,0),(6,0),(7,0),(8,2),(9,0)]).seq (ac [aa 28 6,aq 29 .neq 28 0] (az 29 (ac [aa 30 6,aa 4 30] ret) skip)))).seq (ops 0 [aa 17 5,aq 18 .add 17 1,aa 5 18]))).loop)).seq ((block 2 (ac [aa 32 0,bn 33 32,aa 34 1,bn 35 34,aJ 36 .lss 33 35,aa 31 36] (az 31 (ac [cO 4 (mov (cN ((-1))))] ret) (ac [aa 38 0,bn 39 38,aa 40 1,bn 41 40,aJ 42 .gtr 39 41,aa 37 42] (az 37 (ac [cO 4 (mov (cN 1))] ret) skip))))).seq (ac [cO 4 (mov (cN 0))] ret)))))
theorem HJ:Is Tryz.prog 62 b62:=mkI Tryz.func62
def b63:F2:=(F2.mk 19 [RV.t 4] (ac [cO 4 (mov a9)] ((ac [cO 5 (mov (cN 0))] (block 0 ((ac [aa 6 5,aa 7 0,bn 8 7,aJ 9 .lss 6 8] (az 9 skip (exit 0))).seq ((block 1 (ac [aa 12 1,aa 13 0,aa 14 5,cO 15 (ixaS 2 (t 13) (t 14)),aM 16 2 15,aL 17 97 [t 12,t 16],cO 18 (un UnOp.not (t 17))] (az 18 (ac [cO 4 (mov a9)] ret) skip))).seq (ops 0 [aa 10 5,aq 11 .add 10 1,aa 5 11]))).loop)).seq (ac [cO 4 (mov dQ)] ret))))
theorem HV:Is Tryz.prog 63 b63:=mkI Tryz.func63
def b64:F2:=(F2.mk 10 [RV.t 2] (ac [cO 2 (mov (c AV.esl))] (ac [aa 4 0,aL 5 92 [t 4],aa 3 5] (ac [aa 6 3,aL 7 69 ([t 6,c (AV.func 98 [])])] (ac [aa 8 3,aL 9 71 [t 8],aa 2 9] ret)))))
theorem HE:Is Tryz.prog 64 b64:=mkI Tryz.func64
def b65:F2:=(F2.mk 33 [RV.t 2] (ac [cO 2 (mov (c AV.nilm))] (ac [cO 8 (mkm none),aa 3 8] ((ac [aa 9 0,bn 10 9,cO 11 (mov (cN 0))] (block 0 (ac [aJ 12 .lss 11 10] ((az 12 skip (exit 0)).seq ((block 1 (ac [aa 13 11,cO 14 (ixaS 1 (t 9) (t 11)),aN 15 14,aa 4 13,aa 5 15] (ac [aa 16 5,bn 17 16,cO 18 (mov (cN 0))] (block 2 (ac [aJ 19 .lss 18 17] ((az 19 skip (exit 2)).seq ((block 3 (ac [cO 20 (ixaS 2 (t 16) (t 18)),aM 21 2 20,cO 7 (alloc (AV.agg [aX,aX])),aV 2 7 21] (ops 0 [aa 22 3,aM 23 2 7,aa 25 4,cO 26 (bldS 1 1 [aX] [(0,1,t 25)]),cO 27 (mplc (MK.st [int,int]) AV.esl (t 22) (t 23)),bd 24 27 0,cO 28 (app 1 8 (t 24) (t 26)),bd 29 27 1,Op2.mk none none (mpst (t 22) (t 29) (t 28))]))).seq (ops 0 [aq 30 .add 18 1,aa 18 30])))).loop)))).seq (ops 0 [aq 31 .add 11 1,aa 11 31])))).loop)).seq (ac [aa 32 3,aa 2 32] ret)))))
theorem Gv:Is Tryz.prog 65 b65:=mkI Tryz.func65
def b66:F2:=(F2.mk 10 [RV.t 6] (ac [cO 3 (box (t 0)),cO 5 (box (t 2)),cO 6 (mov a9)] (ac [aa 7 1,cO 8 (mkfn 100 [t 3,t 5]),aL 9 99 [t 7,t 8],aa 6 9] ret)))
theorem Hr:Is Tryz.prog 66 b66:=mkI Tryz.func66
def b67:F2:=(F2.mk 21 [RV.t 2] (ac [cO 1 (box (t 0)),cO 2 (mov a9)] (ac [cf 3 0 1,aN 4 3,aq 5 .geq 4 0,aa 6 5,al 7 6 (fa 0 (t 1)),al 8 6 (cD 7),al 9 6 (cB .lss (t 8) (cN 8)),cO 10 (pick (t 6) (t 9) a9),aa 11 10,al 12 11 (fa 1 (t 1)),al 13 11 (cD 12),al 14 11 (cB .geq (t 13) (cN 0)),cO 15 (pick (t 11) (t 14) a9),aa 16 15,al 17 16 (fa 1 (t 1)),al 18 16 (cD 17),al 19 16 (cB .leq (t 18) (cN 1048576)),cO 20 (pick (t 16) (t 19) a9),aa 2 20] ret)))
theorem Hl:Is Tryz.prog 67 b67:=mkI Tryz.func67
def b68:F2:=(F2.mk 17 [RV.t 4] (ac [cO 2 (box (t 0)),cO 3 (box (t 1)),cO 4 (mov (cN 0))] ((mixS 1 [cf 5 0 2,aN 6 5,cf 7 0 3,aN 8 7,aL 9 102 [t 6,t 8],cf 10 1 2,aN 11 10,cf 12 1 3,aN 13 12,aL 14 102 [t 11,t 13],cO 15 (bldS 1 2 [aX] [(0,1,t 9),(1,1,t 14)]),aL 16 101 [t 15],aa 4 16] [(0,0),(1,0),(2,0),(3,0),(5,0),(6,0),(7,0),(8,0),(4,1),(9,2),(10,2),(11,2),(12,0)]).seq ret)))
theorem G4:Is Tryz.prog 68 b68:=mkI Tryz.func68
def b69:F2:=(F2.mk 14 [] (ac [aa 5 0,bn 6 5,aa 4 6] (ops 0 [aa 7 0,aa 8 4,aa 9 4,cO 10 (conv IntKind.u64 (t 9)),aL 11 104 [t 10],aa 12 1,aL 13 103 ([t 7,cN ((0)),t 8,t 11,t 12])])))
theorem FT:Is Tryz.prog 69 b69:=mkI Tryz.func69
def b70:F2:=(F2.mk 17 [RV.t 4] (ac [cO 2 (box (t 0)),cO 3 (box (t 1)),cO 4 (mov (cN 0))] ((mixS 1 [cf 5 0 2,aN 6 5,cf 7 0 3,aN 8 7,aL 9 102 [t 6,t 8],cf 10 1 2,aN 11 10,cf 12 1 3,aN 13 12,aL 14 102 [t 11,t 13],cO 15 (bldS 1 2 [aX] [(0,1,t 9),(1,1,t 14)]),aL 16 101 [t 15],aa 4 16] [(0,0),(1,0),(2,0),(3,0),(5,0),(6,0),(7,0),(8,0),(4,1),(9,2),(10,2),(11,2),(12,0)]).seq ret)))
theorem Hs:Is Tryz.prog 70 b70:=mkI Tryz.func70
def b71:F2:=(F2.mk 61 [RV.t 2] (ac [cO 2 (mov (c AV.esl))] ((ac [aa 6 0,bn 7 6,aq 8 .lss 7 2] (az 8 (ac [aa 9 0,aa 2 9] ret) skip)).seq ((ac [cO 3 (mov (cN 1))] (block 0 ((ac [aa 10 3,aa 11 0,bn 12 11,aJ 13 .lss 10 12] (az 13 skip (exit 0))).seq ((block 1 ((ops 1 [aa 16 0,aa 17 3,cO 18 (ixaS 2 (t 16) (t 17)),aM 19 2 18,aa 20 0,aa 21 3,aq 22 .sub 21 1,cO 23 (ixaS 2 (t 20) (t 22)),aM 24 2 23,cO 25 (binS BinOp.eql [int,int] (t 19) (t 24))]).seq (az 25 (ac [aa 26 0,aa 27 3,cO 28 (sls 2 (t 26) (some (t 27)) none none),aa 4 28] ((ac [cO 5 (mov (cN 1))] (block 2 ((ac [aa 29 5,aa 30 4,bn 31 30,aJ 32 .lss 29 31] (az 32 skip (exit 2))).seq ((block 3 ((ops 1 [aa 35 4,aa 36 5,cO 37 (ixaS 2 (t 35) (t 36)),aM 38 2 37,aa 39 4,aa 40 5,aq 41 .sub 40 1,cO 42 (ixaS 2 (t 39) (t 41)),aM 43 2 42,cO 44 (binS BinOp.neq [int,int] (t 38) (t 43))]).seq (az 44 (ac [aa 45 0,aa 46 3,aa 47 4,aa 48 5,cO 49 (ixaS 2 (t 47) (t 48)),aM 50 2 49,cO 51 (ixaS 2 (t 45) (t 46)),aV 2 51 50] (ops 0 [aa 52 3,aq 53 .add 52 1,aa 3 53])) skip))).seq (ops 0 [aa 33 5,aq 34 .add 33 1,aa 5 34]))).loop)).seq (ac [aa 54 0,aa 55 3,cO 56 (sls 2 (t 54) (some (t 55)) none none),Op2.mk none none (clr 2 (AV.agg [aX,aX]) (t 56))] (ac [aa 57 0,aa 58 3,cO 59 (sls 2 (t 57) none (some (t 58)) none),aa 2 59] ret)))) skip))).seq (ops 0 [aa 14 3,aq 15 .add 14 1,aa 3 15]))).loop)).seq (ac [aa 60 0,aa 2 60] ret)))))
theorem EO:Is Tryz.prog 71 b71:=mkI Tryz.func71
def b72:F2:=(F2.mk 23 [RV.t 4] (ac [cO 4 (mov (c AV.esl))] (ac [cO 5 (mov (c AV.esl))] ((ac [aa 8 0,bn 9 8,cO 10 (mov (cN 0))] (block 0 (ac [aJ 11 .lss 10 9] ((az 11 skip (exit 0)).seq ((block 1 (ac [cO 12 (ixaS 1 (t 8) (t 10)),aN 13 12,aa 7 13] (ac [aa 14 1,aa 15 7,cO 16 (call (t 14) [t 15])] (az 16 (ops 0 [aa 17 5,aa 18 7,cO 19 (bldS 1 1 [AV.esl] [(0,1,t 18)]),cO 20 (app 1 24 (t 17) (t 19)),aa 5 20]) skip)))).seq (ops 0 [aq 21 .add 10 1,aa 10 21])))).loop)).seq (ac [aa 22 5,aa 4 22] ret)))))
theorem Ij:Is Tryz.prog 72 b72:=mkI Tryz.func72
def b73:F2:=(F2.mk 7 [RV.t 3] (ac [cO 3 (mov a9)] (ac [aN 4 1,aa 5 0,aL 6 74 [t 4,t 5],aa 3 6] ret)))
theorem H6:Is Tryz.prog 73 b73:=mkI Tryz.func73
def b74:F2:=(F2.mk 29 [RV.t 4] (ac [cO 4 (mov a9)] ((ac [aa 7 0,bn 8 7,cO 9 (mov (cN 0))] (block 0 (ac [aJ 10 .lss 9 8] ((az 10 skip (exit 0)).seq ((block 1 (ac [cO 11 (ixaS 2 (t 7) (t 9)),aM 12 2 11,cO 6 (alloc (AV.agg [aX,aX])),aV 2 6 12] ((block 2 (((ops 1 [aa 13 1,bn 14 13,aq 15 .gtr 14 0,aa 16 15,al 17 16 (cM 1),al 18 16 (ixaS 2 (t 17) (cN 0)),al 19 16 (ldn 2 (t 18)),al 20 16 (ldn 2 (t 6)),al 21 16 (binS BinOp.neq [int,int] (t 19) (t 20)),cO 22 (pick (t 16) (t 21) a9)]).seq (az 22 skip (exit 2))).seq (block 3 (ops 0 [aa 23 1,cO 24 (sls 2 (t 23) (some (cN 1)) none none),aa 1 24]))).loop).seq (ac [aa 25 1,bn 26 25,aq 27 .eql 26 0] (az 27 (ac [cO 4 (mov a9)] ret) skip))))).seq (ops 0 [aq 28 .add 9 1,aa 9 28])))).loop)).seq (ac [cO 4 (mov dQ)] ret))))
theorem Gk:Is Tryz.prog 74 b74:=mkI Tryz.func74
def b75:F2:=(F2.mk 8 [RV.t 2] (ac [cO 2 (mov (c AV.esl))] ((ac [aa 3 0,cO 4 (snil false (t 3))] (az 4 (ac [cO 2 (mov (c AV.esl))] ret) skip)).seq (ac [cO 5 (bldS 1 0 [AV.esl] []),aa 6 0,cO 7 (app 1 24 (t 5) (t 6)),aa 2 7] ret))))
theorem Gl:Is Tryz.prog 75 b75:=mkI Tryz.func75
def b76:F2:=(F2.mk 14 [] (ac [aa 5 0,bn 6 5,aa 4 6] (ops 0 [aa 7 0,aa 8 4,aa 9 4,cO 10 (conv IntKind.u64 (t 9)),aL 11 104 [t 10],aa 12 1,aL 13 105 ([t 7,cN ((0)),t 8,t 11,t 12])])))
theorem Fm:Is Tryz.prog 76 b76:=mkI Tryz.func76
def b77:F2:=(F2.mk 66 [RV.t 4] (ac [cO 4 (mov (c AV.esl))] ((ac [aa 8 0,bn 9 8,aq 10 .lss 9 2] (az 10 (ac [aa 11 0,aa 4 11] ret) skip)).seq ((ac [cO 5 (mov (cN 1))] (block 0 ((ac [aa 12 5,aa 13 0,bn 14 13,aJ 15 .lss 12 14] (az 15 skip (exit 0))).seq ((block 1 ((mixS 1 [aa 18 1,aa 19 0,aa 20 5,cO 21 (ixaS 1 (t 19) (t 20)),aN 22 21,aa 23 0,aa 24 5,aq 25 .sub 24 1,cO 26 (ixaS 1 (t 23) (t 25)),aN 27 26,cO 28 (call (t 18) [t 22,t 27])] [(0,0),(1,0),(2,0),(3,0),(4,0),(5,0),(6,0),(7,0),(8,0),(9,0),(10,2)]).seq (az 28 (ac [aa 29 0,aa 30 5,cO 31 (sls 1 (t 29) (some (t 30)) none none),aa 6 31] ((ac [cO 7 (mov (cN 1))] (block 2 ((ac [aa 32 7,aa 33 6,bn 34 33,aJ 35 .lss 32 34] (az 35 skip (exit 2))).seq ((block 3 ((mixS 1 [aa 38 1,aa 39 6,aa 40 7,cO 41 (ixaS 1 (t 39) (t 40)),aN 42 41,aa 43 6,aa 44 7,aq 45 .sub 44 1,cO 46 (ixaS 1 (t 43) (t 45)),aN 47 46,cO 48 (call (t 38) [t 42,t 47]),cO 49 (un UnOp.not (t 48))] [(0,0),(1,0),(2,0),(3,0),(4,0),(5,0),(6,0),(7,0),(8,0),(9,0),(10,2),(11,0)]).seq (az 49 (ac [aa 50 0,aa 51 5,aa 52 6,aa 53 7,cO 54 (ixaS 1 (t 52) (t 53)),aN 55 54,cO 56 (ixaS 1 (t 50) (t 51)),aV 1 56 55] (ops 0 [aa 57 5,aq 58 .add 57 1,aa 5 58])) skip))).seq (ops 0 [aa 36 7,aq 37 .add 36 1,aa 7 37]))).loop)).seq (ac [aa 59 0,aa 60 5,cO 61 (sls 1 (t 59) (some (t 60)) none none),Op2.mk none none (clr 1 AV.esl (t 61))] (ac [aa 62 0,aa 63 5,cO 64 (sls 1 (t 62) none (some (t 63)) none),aa 4 64] ret)))) skip))).seq (ops 0 [aa 16 5,aq 17 .add 16 1,aa 5 17]))).loop)).seq (ac [aa 65 0,aa 4 65] ret)))))
theorem FA:Is Tryz.prog 77 b77:=mkI Tryz.func77
def b78:F2:=(F2.mk 19 [RV.t 4] (ac [cO 4 (mov (cN 0))] ((ac [aa 6 0,bn 7 6,cO 8 (mov (cN 0))] (block 0 (ac [aJ 9 .lss 8 7] ((az 9 skip (exit 0)).seq ((block 1 (ac [aa 10 8,aa 5 10] (ac [aa 11 1,aa 12 0,aa 13 5,cO 14 (ixaS 2 (t 12) (t 13)),aM 15 2 14,cO 16 (call (t 11) [t 15])] (az 16 (ac [aa 17 5,aa 4 17] ret) skip)))).seq (ops 0 [aq 18 .add 8 1,aa 8 18])))).loop)).seq (ac [cO 4 (mov (cN ((-1))))] ret))))
theorem Iv:Is Tryz.prog 78 b78:=mkI Tryz.func78
def b79:F2:=(F2.mk 19 [RV.t 4] (ac [cO 3 (box (t 1)),cO 4 (mov (cN 0))] ((ac [aa 6 0,bn 7 6,cO 8 (mov (cN 0))] (block 0 (ac [aJ 9 .lss 8 7] ((az 9 skip (exit 0)).seq ((block 1 (ac [aa 10 8,aa 5 10] ((ops 1 [aM 11 2 3,aa 12 0,aa 13 5,cO 14 (ixaS 2 (t 12) (t 13)),aM 15 2 14,cO 16 (binS BinOp.eql [int,int] (t 11) (t 15))]).seq (az 16 (ac [aa 17 5,aa 4 17] ret) skip)))).seq (ops 0 [aq 18 .add 8 1,aa 8 18])))).loop)).seq (ac [cO 4 (mov (cN ((-1))))] ret))))
theorem Gr:Is Tryz.prog 79 b79:=mkI Tryz.func79
def b80:F2:=(F2.mk 19 [RV.t 4] (ac [cO 4 (mov (cN 0))] ((ac [aa 6 0,bn 7 6,cO 8 (mov (cN 0))] (block 0 (ac [aJ 9 .lss 8 7] ((az 9 skip (exit 0)).seq ((block 1 (ac [aa 10 8,aa 5 10] (ac [aa 11 1,aa 12 0,aa 13 5,cO 14 (ixaS 1 (t 12) (t 13)),aN 15 14,cO 16 (call (t 11) [t 15])] (az 16 (ac [aa 17 5,aa 4 17] ret) skip)))).seq (ops 0 [aq 18 .add 8 1,aa 8 18])))).loop)).seq (ac [cO 4 (mov (cN ((-1))))] ret))))
theorem Ii:Is Tryz.prog 80 b80:=mkI Tryz.func80
def b83:F2:=(F2.mk 21 [RV.t 2] (ac [cO 1 (box (t 0)),cO 2 (mov a9)] (ac [cf 3 0 1,aN 4 3,aq 5 .geq 4 0,aa 6 5,al 7 6 (fa 0 (t 1)),al 8 6 (cD 7),al 9 6 (cB .lss (t 8) (cN 8)),cO 10 (pick (t 6) (t 9) a9),aa 11 10,al 12 11 (fa 1 (t 1)),al 13 11 (cD 12),al 14 11 (cB .geq (t 13) (cN 0)),cO 15 (pick (t 11) (t 14) a9),aa 16 15,al 17 16 (fa 1 (t 1)),al 18 16 (cD 17),al 19 16 (cB .leq (t 18) (cN 1048576)),cO 20 (pick (t 16) (t 19) a9),aa 2 20] ret)))
theorem G3:Is Tryz.prog 83 b83:=mkI Tryz.func83
def b84:F2:=(F2.mk 9 [RV.t 4] (ac [cO 4 (mov a9)] (ac [aa 5 0,aa 6 1,aL 7 62 [t 5,t 6],aq 8 .eql 7 0,aa 4 8] ret)))
theorem HU:Is Tryz.prog 84 b84:=mkI Tryz.func84
def b85:F2:=(F2.mk 60 [RV.t 4,RV.t 5] (ac [cO 4 (mov (c AV.esl)),cO 5 (mov (cN 0))] (ac [cO 14 (mkm none),aa 6 14] (ac [cO 7 (mov (c AV.esl))] ((ac [aa 15 0,bn 16 15,cO 17 (mov (cN 0))] (block 0 (ac [aJ 18 .lss 17 16] ((az 18 skip (exit 0)).seq ((block 1 (ac [cO 19 (ixaS 1 (t 15) (t 17)),aN 20 19,aa 9 20] ((ac [aa 21 9,bn 22 21,aa 23 1,aJ 24 .lss 22 23] (az 24 (exit 1) skip)).seq (ac [aa 26 9,aa 27 1,aL 28 106 [t 26,t 27],aa 25 28,bd 29 25 0,bd 30 25 1,aa 10 29,aa 11 30] ((ac [aa 31 11,aq 32 .neq 31 0] (az 32 (ac [aa 33 11,cO 4 (mov (c AV.esl)),aa 5 33] ret) skip)).seq ((ac [aa 34 10,bn 35 34,cO 36 (mov (cN 0))] (block 2 (ac [aJ 37 .lss 36 35] ((az 37 skip (exit 2)).seq ((block 3 (ac [cO 38 (ixaS 1 (t 34) (t 36)),aN 39 38,aa 13 39] (ac [aa 40 6,aa 41 13,aL 42 107 [t 41],cO 43 (Ins.mget (MK.st [int,int,int,int,int,int,int,int,int,int,int,int,int,int,int,int]) (AV.bool false) false (t 40) (t 42)),cO 44 (un UnOp.not (t 43))] (az 44 (ac [aa 45 6,aa 46 13,aL 47 107 [t 46],Op2.mk none none (mput (MK.st [int,int,int,int,int,int,int,int,int,int,int,int,int,int,int,int]) (t 45) (t 47) dQ)] (ops 0 [aa 48 7,aa 49 13,cO 50 (bldS 1 1 [AV.esl] [(0,1,t 49)]),cO 51 (app 1 24 (t 48) (t 50)),aa 7 51])) skip)))).seq (ops 0 [aq 52 .add 36 1,aa 36 52])))).loop)).seq (ac [aa 53 7,bn 54 53,aq 55 .gtr 54 4096] (az 55 (ac [cO 4 (mov (c AV.esl)),cO 5 (mov (cN 17))] ret) skip)))))))).seq (ops 0 [aq 56 .add 17 1,aa 17 56])))).loop)).seq (ac [aa 57 7,aL 58 76 ([t 57,c (AV.func 49 [])])] (ac [aa 59 7,aa 4 59,cO 5 (mov (cN 0))] ret)))))))
theorem IH:Is Tryz.prog 85 b85:=mkI Tryz.func85
def b86:F2:=(F2.mk 49 [RV.t 6,RV.t 7] (ac [cO 6 (mov (cN 0)),cO 7 (mov a9)] (ac [aa 12 0,bn 13 12,aa 8 13] (ac [aa 14 8,cO 9 (mov (cN 0)),aa 10 14] ((block 0 ((ac [aa 15 9,aa 16 10,aJ 17 .lss 15 16] (az 17 skip (exit 0))).seq (block 1 (ac [aa 18 9,aa 19 10,aJ 20 .add 18 19,cO 21 (conv IntKind.u64 (t 20)),cO 22 (cB .shr (t 21) (c (AV.int IntKind.u64 (1)))),cO 23 (conv IntKind.i64 (t 22)),aa 11 23] (ac [aa 24 2,aa 25 0,aa 26 11,cO 27 (ixaS 1 (t 25) (t 26)),aN 28 27,aa 29 1,cO 30 (call (t 24) [t 28,t 29]),aq 31 .lss 30 0] (az 31 (ops 0 [aa 32 11,aq 33 .add 32 1,aa 9 33]) (ops 0 [aa 34 11,aa 10 34])))))).loop).seq (ac [aa 35 9,aa 36 9,aa 37 8,aJ 38 .lss 36 37,aa 39 38,al 40 39 (cM 2),al 41 39 (cM 0),al 42 39 (cM 9),al 43 39 (ixaS 1 (t 41) (t 42)),al 44 39 (cD 43),al 45 39 (cM 1),al 46 39 (call (t 40) [t 44,t 45]),al 47 39 (cB .eql (t 46) (cN 0)),cO 48 (pick (t 39) (t 47) a9),aa 6 35,aa 7 48] ret))))))
theorem HS:Is Tryz.prog 86 b86:=mkI Tryz.func86
def b87:F2:=(F2.mk 39 [RV.t 6] (ac [cO 6 (mov (cN 0))] ((ac [aa 11 0,bn 12 11,cO 13 (mov (cN 0))] (block 0 (ac [aJ 14 .lss 13 12] ((az 14 skip (exit 0)).seq ((block 1 (ac [aa 15 13,cO 16 (ixaS 2 (t 11) (t 13)),aM 17 2 16,cO 8 (alloc (AV.agg [aX,aX])),aa 7 15,aV 2 8 17] ((ac [aa 18 7,aa 19 1,bn 20 19,aJ 21 .geq 18 20] (az 21 (ac [cO 6 (mov (cN 1))] ret) skip)).seq (ac [aa 22 1,aa 23 7,cO 24 (ixaS 2 (t 22) (t 23)),aM 25 2 24,cO 9 (alloc (AV.agg [aX,aX])),aV 2 9 25] (ac [aa 26 2,aM 27 2 8,aM 28 2 9,cO 29 (call (t 26) [t 27,t 28]),aa 10 29] (ac [aa 30 10,aq 31 .neq 30 0] (az 31 (ac [aa 32 10,aa 6 32] ret) skip))))))).seq (ops 0 [aq 33 .add 13 1,aa 13 33])))).loop)).seq ((ac [aa 34 0,bn 35 34,aa 36 1,bn 37 36,aJ 38 .lss 35 37] (az 38 (ac [cO 6 (mov (cN ((-1))))] ret) skip)).seq (ac [cO 6 (mov (cN 0))] ret)))))
theorem GU:Is Tryz.prog 87 b87:=mkI Tryz.func87
def b88:F2:=(F2.mk 35 [RV.t 2] (ac [cO 1 (box (t 0)),cO 2 (mov (cN 0))] ((block 0 (ac [cf 7 0 1,aN 8 7,aq 9 .lss 8 0,aa 10 9,cQ 11 10 (fa 0 (t 1)),cQ 12 10 (cD 11),cQ 13 10 (cB .gtr (t 12) (cN 4096)),cO 14 (pick (t 10) dQ (t 13)),aa 6 14] (az 6 (ac [cO 2 (mov (cN 2))] ret) (ac [cf 16 1 1,aN 17 16,bn 18 17,aq 19 .gtr 18 4096,aa 15 19] (az 15 (ac [cO 2 (mov (cN 5))] ret) skip))))).seq ((ac [cf 20 1 1,aN 21 20,bn 22 21,cO 23 (mov (cN 0))] (block 1 (ac [aJ 24 .lss 23 22] ((az 24 skip (exit 1)).seq ((block 2 (ac [cO 25 (ixaS 1 (t 21) (t 23)),aN 26 25,aa 4 26] (ac [aa 27 4,cf 28 0 1,aN 29 28,aL 30 108 [t 27,t 29],aa 5 30] (ac [aa 31 5,aq 32 .neq 31 0] (az 32 (ac [aa 33 5,aa 2 33] ret) skip))))).seq (ops 0 [aq 34 .add 23 1,aa 23 34])))).loop)).seq (ac [cO 2 (mov (cN 0))] ret)))))
theorem HL:Is Tryz.prog 88 b88:=mkI Tryz.func88
def b89:F2:=(F2.mk 35 [] (ac [cf 9 1 1,aN 10 9,bn 11 10,cO 12 (mov (cN 0))] (block 0 (ac [aJ 13 .lss 12 11] ((az 13 skip (exit 0)).seq ((block 1 (ac [cO 14 (ixaS 1 (t 10) (t 12)),aN 15 14,aa 5 15] (ac [cO 6 (mov (c AV.esl))] ((ac [aa 16 5,bn 17 16,cO 18 (mov (cN 0))] (block 2 (ac [aJ 19 .lss 18 17] ((az 19 skip (exit 2)).seq ((block 3 (ac [cO 20 (ixaS 1 (t 16) (t 18)),aN 21 20,aa 8 21] (ops 0 [aa 22 6,cf 23 1 2,aN 24 23,aa 25 8,cO 26 (ixaS 1 (t 24) (t 25)),aN 27 26,aL 28 90 [t 22,t 27],aa 6 28]))).seq (ops 0 [aq 29 .add 18 1,aa 18 29])))).loop)).seq (ac [aa 30 0,aa 31 6,cO 32 (call (t 30) [t 31]),cO 33 (un UnOp.not (t 32))] (az 33 ret skip)))))).seq (ops 0 [aq 34 .add 12 1,aa 12 34])))).loop)))
theorem Ig:Is Tryz.prog 89 b89:=mkI Tryz.func89
def b90:F2:=(F2.mk 61 [RV.t 4] (ac [cO 4 (mov (c AV.esl))] (ac [aa 6 0,bn 7 6,aa 8 1,bn 9 8,aJ 10 .add 7 9,cO 11 (mks 1 8 [aX] (cN 0) (t 10)),aa 5 11] ((block 0 ((ac [aa 12 0,bn 13 12,aq 14 .gtr 13 0,aa 15 14,al 16 15 (cM 1),al 17 15 (lenS (t 16)),al 18 15 (cB .gtr (t 17) (cN 0)),cO 19 (pick (t 15) (t 18) a9)] (az 19 skip (exit 0))).seq (block 1 (block 2 ((ops 1 [aa 25 0,cO 26 (ixaS 1 (t 25) (cN 0)),aN 27 26,aa 28 1,cO 29 (ixaS 1 (t 28) (cN 0)),aN 30 29,aJ 31 .lss 27 30,aa 24 31]).seq (az 24 (ops 1 [aa 32 5,aa 33 0,cO 34 (ixaS 1 (t 33) (cN 0)),aN 35 34,cO 36 (bldS 1 1 [aX] [(0,1,t 35)]),cO 37 (app 1 8 (t 32) (t 36)),aa 38 0,cO 39 (sls 1 (t 38) (some (cN 1)) none none),aa 5 37,aa 0 39]) ((ops 1 [aa 41 0,cO 42 (ixaS 1 (t 41) (cN 0)),aN 43 42,aa 44 1,cO 45 (ixaS 1 (t 44) (cN 0)),aN 46 45,aJ 47 .gtr 43 46,aa 40 47]).seq (az 40 (ops 1 [aa 48 5,aa 49 1,cO 50 (ixaS 1 (t 49) (cN 0)),aN 51 50,cO 52 (bldS 1 1 [aX] [(0,1,t 51)]),cO 53 (app 1 8 (t 48) (t 52)),aa 54 1,cO 55 (sls 1 (t 54) (some (cN 1)) none none),aa 5 53,aa 1 55]) (ops 1 [aa 20 0,cO 21 (sls 1 (t 20) (some (cN 1)) none none),aa 22 1,cO 23 (sls 1 (t 22) (some (cN 1)) none none),aa 0 21,aa 1 23])))))))).loop).seq (ac [aa 56 5,aa 57 0,cO 58 (app 1 8 (t 56) (t 57)),aa 59 1,cO 60 (app 1 8 (t 58) (t 59)),aa 4 60] ret)))))
theorem Iq:Is Tryz.prog 90 b90:=mkI Tryz.func90
def b91:F2:=(F2.mk 27 [] (ac [aN 4 1,bn 5 4,cO 6 (mov (cN 0))] (block 0 (ac [aJ 7 .lss 6 5] ((az 7 skip (exit 0)).seq ((block 1 (ac [aa 8 6,aa 3 8] ((mixS 1 [aN 9 1,bn 10 9,aq 11 .gtr 10 1,aa 12 11,al 13 12 (cM 0),al 14 12 (cD 1),al 15 12 (cM 3),al 16 12 (sls 2 (t 14) none (some (t 15)) none),al 17 12 (cD 1),al 18 12 (cM 3),al 19 12 (cB .add (t 18) (cN 1)),al 20 12 (sls 2 (t 17) (some (t 19)) none none),al 21 12 (bldS 1 2 [AV.esl] [(0,1,t 16),(1,1,t 20)]),al 22 12 (call (cF 92) [t 21]),al 23 12 (call (t 13) [t 22]),al 24 12 (un UnOp.not (t 23)),cO 25 (pick (t 12) (t 24) a9)] [(0,0),(1,0),(2,0),(3,0),(4,0),(5,0),(6,0),(7,0),(8,0),(9,0),(10,0),(11,0),(12,2),(13,2),(14,2),(15,0),(16,0)]).seq (az 25 ret skip)))).seq (ops 0 [aq 26 .add 6 1,aa 6 26])))).loop)))
theorem Ir:Is Tryz.prog 91 b91:=mkI Tryz.func91
def b92:F2:=(F2.mk 36 [RV.t 2] (ac [cO 2 (mov (c AV.esl))] (ac [cO 3 (mov (cN 0))] ((ac [aa 9 0,bn 10 9,cO 11 (mov (cN 0))] (block 0 (ac [aJ 12 .lss 11 10] ((az 12 skip (exit 0)).seq ((block 1 (ac [cO 13 (ixaS 1 (t 9) (t 11)),aN 14 13,aa 5 14] (ac [aa 15 3,aa 16 5,bn 17 16,aJ 18 .add 15 17,aa 3 18] (ac [aa 19 3,aq 20 .lss 19 0] (az 20 (ops 0 [cO 21 dead,Op2.mk none none dead]) skip))))).seq (ops 0 [aq 22 .add 11 1,aa 11 22])))).loop)).seq (ac [aa 23 3,aL 24 109 [c AV.esl,t 23],aa 6 24] ((ac [aa 25 0,bn 26 25,cO 27 (mov (cN 0))] (block 2 (ac [aJ 28 .lss 27 26] ((az 28 skip (exit 2)).seq ((block 3 (ac [cO 29 (ixaS 1 (t 25) (t 27)),aN 30 29,aa 8 30] (ops 0 [aa 31 6,aa 32 8,cO 33 (app 2 16 (t 31) (t 32)),aa 6 33]))).seq (ops 0 [aq 34 .add 27 1,aa 27 34])))).loop)).seq (ac [aa 35 6,aa 2 35] ret)))))))
theorem FO:Is Tryz.prog 92 b92:=mkI Tryz.func92
def b93:F2:=(F2.mk 23 [RV.t 4] (ac [cO 4 (mov (c AV.esl))] (ac [cO 5 (mov (c AV.esl))] ((ac [aa 8 0,bn 9 8,cO 10 (mov (cN 0))] (block 0 (ac [aJ 11 .lss 10 9] ((az 11 skip (exit 0)).seq ((block 1 (ac [cO 12 (ixaS 2 (t 8) (t 10)),aM 13 2 12,cO 7 (alloc (AV.agg [aX,aX])),aV 2 7 13] (ac [aa 14 1,aM 15 2 7,cO 16 (call (t 14) [t 15])] (az 16 (ops 0 [aa 17 5,aM 18 2 7,cO 19 (bldS 2 1 [aX,aX] [(0,2,t 18)]),cO 20 (app 2 16 (t 17) (t 19)),aa 5 20]) skip)))).seq (ops 0 [aq 21 .add 10 1,aa 10 21])))).loop)).seq (ac [aa 22 5,aa 4 22] ret)))))
theorem Iu:Is Tryz.prog 93 b93:=mkI Tryz.func93
def b94:F2:=(F2.mk 6 [RV.t 2] (ac [cO 2 (mov a9)] (ac [aa 3 0,bn 4 3,aq 5 .leq 4 10,aa 2 5] ret)))
theorem HN:Is Tryz.prog 94 b94:=mkI Tryz.func94
def b95:F2:=(F2.mk 21 [RV.t 2] (ac [cO 1 (box (t 0)),cO 2 (mov a9)] (ac [cf 3 0 1,aN 4 3,aq 5 .geq 4 0,aa 6 5,al 7 6 (fa 0 (t 1)),al 8 6 (cD 7),al 9 6 (cB .lss (t 8) (cN 8)),cO 10 (pick (t 6) (t 9) a9),aa 11 10,al 12 11 (fa 1 (t 1)),al 13 11 (cD 12),al 14 11 (cB .geq (t 13) (cN 0)),cO 15 (pick (t 11) (t 14) a9),aa 16 15,al 17 16 (fa 1 (t 1)),al 18 16 (cD 17),al 19 16 (cB .leq (t 18) (cN 1048576)),cO 20 (pick (t 16) (t 19) a9),aa 2 20] ret)))
theorem Iz:Is Tryz.prog 95 b95:=mkI Tryz.func95
def b96:F2:=(F2.mk 29 [RV.t 4] (ac [cO 2 (box (t 0)),cO 3 (box (t 1)),cO 4 (mov (cN 0))] ((block 0 (ac [cf 6 0 2,aN 7 6,cf 8 0 3,aN 9 8,aJ 10 .lss 7 9,aa 5 10] (az 5 (ac [cO 4 (mov (cN ((-1))))] ret) (ac [cf 12 0 2,aN 13 12,cf 14 0 3,aN 15 14,aJ 16 .gtr 13 15,aa 11 16] (az 11 (ac [cO 4 (mov (cN 1))] ret) (ac [cf 18 1 2,aN 19 18,cf 20 1 3,aN 21 20,aJ 22 .lss 19 21,aa 17 22] (az 17 (ac [cO 4 (mov (cN ((-1))))] ret) (ac [cf 24 1 2,aN 25 24,cf 26 1 3,aN 27 26,aJ 28 .gtr 25 27,aa 23 28] (az 23 (ac [cO 4 (mov (cN 1))] ret) skip))))))))).seq (ac [cO 4 (mov (cN 0))] ret))))
theorem Im:Is Tryz.prog 96 b96:=mkI Tryz.func96
def b97:F2:=(F2.mk 18 [RV.t 4] (ac [cO 3 (box (t 1)),cO 4 (mov a9)] ((ac [cO 5 (mov (cN 0))] (block 0 ((ac [aa 6 5,aa 7 0,bn 8 7,aJ 9 .lss 6 8] (az 9 skip (exit 0))).seq ((block 1 ((ops 1 [aa 12 0,aa 13 5,cO 14 (ixaS 2 (t 12) (t 13)),aM 15 2 14,aM 16 2 3,cO 17 (binS BinOp.eql [int,int] (t 15) (t 16))]).seq (az 17 (ac [cO 4 (mov dQ)] ret) skip))).seq (ops 0 [aa 10 5,aq 11 .add 10 1,aa 5 11]))).loop)).seq (ac [cO 4 (mov a9)] ret))))
theorem H9:Is Tryz.prog 97 b97:=mkI Tryz.func97
def b98:F2:=(F2.mk 10 [RV.t 4] (ac [cO 2 (box (t 0)),cO 3 (box (t 1)),cO 4 (mov (cN 0))] (ac [aM 5 2 2,cO 6 (bldS 2 1 [aX,aX] [(0,2,t 5)]),aM 7 2 3,cO 8 (bldS 2 1 [aX,aX] [(0,2,t 7)]),aL 9 49 [t 6,t 8],aa 4 9] ret)))
theorem Iy:Is Tryz.prog 98 b98:=mkI Tryz.func98
def b99:F2:=(F2.mk 9 [RV.t 4] (ac [cO 4 (mov a9)] (ac [aa 5 0,aa 6 1,aL 7 110 [t 5,t 6],aq 8 .geq 7 0,aa 4 8] ret)))
theorem Gy:Is Tryz.prog 99 b99:=mkI Tryz.func99
def Fh:F2:=(F2.mk 21 [RV.t 4] (ac [cO 4 (mov a9)] ((mixS 1 [aN 5 1,aa 6 0,cO 7 (ixaS 1 (t 5) (t 6)),aN 8 7,bn 9 8,aN 10 2,bn 11 10,aJ 12 .gtr 9 11,aa 13 12,al 14 13 (cD 2),al 15 13 (cD 1),al 16 13 (cM 0),al 17 13 (ixaS 1 (t 15) (t 16)),al 18 13 (cD 17),al 19 13 (call (cF 74) [t 14,t 18]),cO 20 (pick (t 13) (t 19) a9),aa 4 20] [(0,0),(1,0),(2,0),(3,0),(4,0),(5,0),(6,0),(7,0),(8,0),(9,0),(10,0),(11,0),(12,0),(13,0),(14,2),(15,0),(16,0)]).seq ret)))
theorem D6:Is Tryz.prog 100 Fh:=mkI Tryz.func100
def Fu:F2:=(F2.mk 18 [RV.t 2] (ac [cO 2 (mov (cN 0))] (ac [cO 3 (mov (cN 0))] ((ac [aa 6 0,bn 7 6,cO 8 (mov (cN 0))] (block 0 (ac [aJ 9 .lss 8 7] ((az 9 skip (exit 0)).seq ((block 1 (ac [cO 10 (ixaS 1 (t 6) (t 8)),aN 11 10,aa 5 11] (ac [aa 12 5,aa 13 3,aJ 14 .neq 12 13] (az 14 (ac [aa 15 5,aa 2 15] ret) skip)))).seq (ops 0 [aq 16 .add 8 1,aa 8 16])))).loop)).seq (ac [aa 17 3,aa 2 17] ret)))))
theorem D9:Is Tryz.prog 101 Fu:=mkI Tryz.func101
def FE:F2:=(F2.mk 20 [RV.t 4] (ac [cO 4 (mov (cN 0))] (ac [aa 7 0,aL 8 111 [t 7],aa 5 8] (ac [aa 9 1,aL 10 111 [t 9],aa 6 10] ((ac [aa 11 5] (az 11 ((ac [aa 12 6] (az 12 (ac [cO 4 (mov (cN 0))] ret) skip)).seq (ac [cO 4 (mov (cN ((-1))))] ret)) skip)).seq ((ac [aa 13 6] (az 13 (ac [cO 4 (mov (cN 1))] ret) skip)).seq ((ac [aa 14 0,aa 15 1,aJ 16 .lss 14 15] (az 16 (ac [cO 4 (mov (cN ((-1))))] ret) skip)).seq ((ac [aa 17 0,aa 18 1,aJ 19 .gtr 17 18] (az 19 (ac [cO 4 (mov (cN 1))] ret) skip)).seq (ac [cO 4 (mov (cN 0))] ret)))))))))
theorem El:Is Tryz.prog 102 FE:=mkI Tryz.func102
def Db:F2:=(F2.mk 148 [] (ac [cO 10 (mov dQ)] (ac [cO 11 (mov dQ)] (block 0 (block 1 (ac [aa 21 2,aa 22 1,aJ 23 .sub 21 22,aa 12 23] ((ac [aa 24 12,aq 25 .leq 24 12] (az 25 (ac [aa 26 0,aa 27 1,aa 28 2,aa 29 4,aL 30 112 [t 26,t 27,t 28,t 29]] ret) skip)).seq ((ac [aa 31 3,aq 32 .eql 31 0] (az 32 (ac [aa 33 0,aa 34 1,aa 35 2,aa 36 4,aL 37 113 [t 33,t 34,t 35,t 36]] ret) skip)).seq ((ac [aa 38 10,cO 39 (un UnOp.not (t 38))] (az 39 (ac [aa 40 0,aa 41 1,aa 42 2,aa 43 4,aL 44 114 [t 40,t 41,t 42,t 43]] (ops 0 [aa 45 3,aq 46 .sub 45 1,aa 3 46])) skip)).seq (ac [aa 48 0,aa 49 1,aa 50 2,aa 51 4,aL 52 115 [t 48,t 49,t 50,t 51],aa 47 52,bd 53 47 0,bd 54 47 1,aa 13 53,aa 14 54] ((ac [aa 55 14,aq 56 .eql 55 2] (az 56 (ac [aa 57 0,aa 58 1,aa 59 2,aa 60 4,aL 61 116 [t 57,t 58,t 59,t 60]] (ac [aa 62 2,aq 63 .sub 62 1,aa 64 13,aa 65 1,aJ 66 .sub 64 65,aJ 67 .sub 63 66,aa 13 67] (ops 0 [cO 14 (mov (cN 1))]))) skip)).seq ((ac [aa 68 10,aa 69 68,al 70 69 (cM 11),cO 71 (pick (t 69) (t 70) a9),aa 72 71,al 73 72 (cM 14),al 74 72 (cB .eql (t 73) (cN 1)),cO 75 (pick (t 72) (t 74) a9)] (az 75 (ac [aa 76 0,aa 77 1,aa 78 2,aa 79 4,aL 80 117 [t 76,t 77,t 78,t 79]] (az 80 ret skip)) skip)).seq (((mixS 1 [aa 81 1,aq 82 .gtr 81 0,aa 83 82,al 84 83 (cM 4),al 85 83 (cM 0),al 86 83 (cM 1),al 87 83 (cB .sub (t 86) (cN 1)),al 88 83 (ixaS 2 (t 85) (t 87)),al 89 83 (ldn 2 (t 88)),al 90 83 (cM 0),al 91 83 (cM 13),al 92 83 (ixaS 2 (t 90) (t 91)),al 93 83 (ldn 2 (t 92)),al 94 83 (call (t 84) [t 89,t 93]),al 95 83 (cB .lss (t 94) (cN 0)),al 96 83 (un UnOp.not (t 95)),cO 97 (pick (t 83) (t 96) a9)] [(0,0),(1,0),(2,0),(3,0),(4,0),(5,0),(6,0),(7,0),(8,0),(9,0),(10,0),(11,0),(12,0),(13,2),(14,0),(15,0),(16,0)]).seq (az 97 (ac [aa 98 0,aa 99 1,aa 100 2,aa 101 13,aa 102 4,aL 103 118 [t 98,t 99,t 100,t 101,t 102],aa 15 103] (ac [aa 104 15,aa 1 104] (exit 1))) skip)).seq (ac [aa 106 0,aa 107 1,aa 108 2,aa 109 13,aa 110 4,aL 111 119 [t 106,t 107,t 108,t 109,t 110],aa 105 111,bd 112 105 0,bd 113 105 1,aa 16 112,aa 17 113] (ac [aa 114 17,aa 11 114] (ac [aa 115 16,aa 116 1,aJ 117 .sub 115 116,aa 118 2,aa 119 16,aJ 120 .sub 118 119,aa 18 117,aa 19 120] (ac [aa 121 12,aq 122 .quo 121 8,aa 20 122] (ac [aa 123 18,aa 124 19,aJ 125 .lss 123 124] (az 125 (ac [aa 126 18,aa 127 20,aJ 128 .geq 126 127,aa 10 128] (ac [aa 129 0,aa 130 1,aa 131 16,aa 132 3,aa 133 4,aL 134 103 [t 129,t 130,t 131,t 132,t 133]] (ops 0 [aa 135 16,aq 136 .add 135 1,aa 1 136]))) (ac [aa 137 19,aa 138 20,aJ 139 .geq 137 138,aa 10 139] (ac [aa 140 0,aa 141 16,aq 142 .add 141 1,aa 143 2,aa 144 3,aa 145 4,aL 146 103 [t 140,t 142,t 143,t 144,t 145]] (ops 0 [aa 147 16,aa 2 147])))))))))))))))))).loop))))
theorem Bs:Is Tryz.prog 103 Db:=mkI Tryz.func103
def DG:F2:=(F2.mk 8 [RV.t 2] (ac [cO 2 (mov (cN 0))] ((C2.cond a9 (ac [aa 3 0,cO 4 (conv IntKind.u32 (t 3)),aL 5 120 [t 4],aa 2 5] ret) skip).seq (ac [aa 6 0,aL 7 121 [t 6],aa 2 7] ret))))
theorem Bx:Is Tryz.prog 104 DG:=mkI Tryz.func104
def Dp:F2:=(F2.mk 148 [] (ac [cO 10 (mov dQ)] (ac [cO 11 (mov dQ)] (block 0 (block 1 (ac [aa 21 2,aa 22 1,aJ 23 .sub 21 22,aa 12 23] ((ac [aa 24 12,aq 25 .leq 24 12] (az 25 (ac [aa 26 0,aa 27 1,aa 28 2,aa 29 4,aL 30 122 [t 26,t 27,t 28,t 29]] ret) skip)).seq ((ac [aa 31 3,aq 32 .eql 31 0] (az 32 (ac [aa 33 0,aa 34 1,aa 35 2,aa 36 4,aL 37 123 [t 33,t 34,t 35,t 36]] ret) skip)).seq ((ac [aa 38 10,cO 39 (un UnOp.not (t 38))] (az 39 (ac [aa 40 0,aa 41 1,aa 42 2,aa 43 4,aL 44 124 [t 40,t 41,t 42,t 43]] (ops 0 [aa 45 3,aq 46 .sub 45 1,aa 3 46])) skip)).seq (ac [aa 48 0,aa 49 1,aa 50 2,aa 51 4,aL 52 125 [t 48,t 49,t 50,t 51],aa 47 52,bd 53 47 0,bd 54 47 1,aa 13 53,aa 14 54] ((ac [aa 55 14,aq 56 .eql 55 2] (az 56 (ac [aa 57 0,aa 58 1,aa 59 2,aa 60 4,aL 61 126 [t 57,t 58,t 59,t 60]] (ac [aa 62 2,aq 63 .sub 62 1,aa 64 13,aa 65 1,aJ 66 .sub 64 65,aJ 67 .sub 63 66,aa 13 67] (ops 0 [cO 14 (mov (cN 1))]))) skip)).seq ((ac [aa 68 10,aa 69 68,al 70 69 (cM 11),cO 71 (pick (t 69) (t 70) a9),aa 72 71,al 73 72 (cM 14),al 74 72 (cB .eql (t 73) (cN 1)),cO 75 (pick (t 72) (t 74) a9)] (az 75 (ac [aa 76 0,aa 77 1,aa 78 2,aa 79 4,aL 80 127 [t 76,t 77,t 78,t 79]] (az 80 ret skip)) skip)).seq (((mixS 1 [aa 81 1,aq 82 .gtr 81 0,aa 83 82,al 84 83 (cM 4),al 85 83 (cM 0),al 86 83 (cM 1),al 87 83 (cB .sub (t 86) (cN 1)),al 88 83 (ixaS 1 (t 85) (t 87)),al 89 83 (cD 88),al 90 83 (cM 0),al 91 83 (cM 13),al 92 83 (ixaS 1 (t 90) (t 91)),al 93 83 (cD 92),al 94 83 (call (t 84) [t 89,t 93]),al 95 83 (cB .lss (t 94) (cN 0)),al 96 83 (un UnOp.not (t 95)),cO 97 (pick (t 83) (t 96) a9)] [(0,0),(1,0),(2,0),(3,0),(4,0),(5,0),(6,0),(7,0),(8,0),(9,0),(10,0),(11,0),(12,0),(13,2),(14,0),(15,0),(16,0)]).seq (az 97 (ac [aa 98 0,aa 99 1,aa 100 2,aa 101 13,aa 102 4,aL 103 128 [t 98,t 99,t 100,t 101,t 102],aa 15 103] (ac [aa 104 15,aa 1 104] (exit 1))) skip)).seq (ac [aa 106 0,aa 107 1,aa 108 2,aa 109 13,aa 110 4,aL 111 129 [t 106,t 107,t 108,t 109,t 110],aa 105 111,bd 112 105 0,bd 113 105 1,aa 16 112,aa 17 113] (ac [aa 114 17,aa 11 114] (ac [aa 115 16,aa 116 1,aJ 117 .sub 115 116,aa 118 2,aa 119 16,aJ 120 .sub 118 119,aa 18 117,aa 19 120] (ac [aa 121 12,aq 122 .quo 121 8,aa 20 122] (ac [aa 123 18,aa 124 19,aJ 125 .lss 123 124] (az 125 (ac [aa 126 18,aa 127 20,aJ 128 .geq 126 127,aa 10 128] (ac [aa 129 0,aa 130 1,aa 131 16,aa 132 3,aa 133 4,aL 134 105 [t 129,t 130,t 131,t 132,t 133]] (ops 0 [aa 135 16,aq 136 .add 135 1,aa 1 136]))) (ac [aa 137 19,aa 138 20,aJ 139 .geq 137 138,aa 10 139] (ac [aa 140 0,aa 141 16,aq 142 .add 141 1,aa 143 2,aa 144 3,aa 145 4,aL 146 105 [t 140,t 142,t 143,t 144,t 145]] (ops 0 [aa 147 16,aa 2 147])))))))))))))))))).loop))))
theorem Cz:Is Tryz.prog 105 Dp:=mkI Tryz.func105
def G9:F2:=(F2.mk 24 [RV.t 4,RV.t 5] (ac [cO 4 (mov (c AV.esl)),cO 5 (mov (cN 0))] ((ac [aa 7 0,aL 8 29 [t 7],aa 6 8] (ac [aa 9 6,aq 10 .neq 9 0] (az 10 (ac [aa 11 6,cO 4 (mov (c AV.esl)),aa 5 11] ret) skip))).seq ((ac [aa 12 1,aq 13 .lss 12 1,aa 14 13,cQ 15 14 (cM 1),cQ 16 14 (cM 0),cQ 17 14 (lenS (t 16)),cQ 18 14 (cB .gtr (t 15) (t 17)),cO 19 (pick (t 14) dQ (t 18))] (az 19 (ac [cO 4 (mov (c AV.esl)),cO 5 (mov (cN 2))] ret) skip)).seq (ac [aa 20 0,aa 21 1,aL 22 131 [t 20,t 21],aL 23 130 [t 22],aa 4 23,cO 5 (mov (cN 0))] ret)))))
theorem G5:Is Tryz.prog 106 G9:=mkI Tryz.func106
def GW:F2:=(F2.mk 16 [RV.cn 2 16] (ac [cO 2 (alloc (AV.agg [aX,aX,aX,aX,aX,aX,aX,aX,aX,aX,aX,aX,aX,aX,aX,aX]))] (ac [cO 3 (alloc (AV.agg [aX,aX,aX,aX,aX,aX,aX,aX,aX,aX,aX,aX,aX,aX,aX,aX]))] ((ac [cO 5 (mov (cN 0))] (block 0 (ac [aq 6 .lss 5 8] ((az 6 skip (exit 0)).seq ((block 1 (ac [aa 7 5,aa 4 7] (ops 0 [aa 8 4,cO 9 (ixaA 8 2 (t 3) (t 8)),cf 10 0 9,Op2.mk none none (Ins.st 1 (t 10) (cN ((-1))))]))).seq (ops 0 [aq 11 .add 5 1,aa 5 11])))).loop)).seq (ac [cO 12 (slp 8 2 (t 3)),aa 13 0,cO 14 (cpy 2 (t 12) (t 13))] (ac [aM 15 16 3,aV 16 2 15] ret))))))
theorem GP:Is Tryz.prog 107 GW:=mkI Tryz.func107
def Gn:F2:=(F2.mk 35 [RV.t 4] (ac [cO 4 (mov (cN 0))] ((ac [aa 7 0,bn 8 7,cO 9 (mov (cN 0))] (block 0 (ac [aJ 10 .lss 9 8] ((az 10 skip (exit 0)).seq ((block 1 (ac [aa 11 9,cO 12 (ixaS 1 (t 7) (t 9)),aN 13 12,aa 5 11,aa 6 13] (block 2 (ac [aa 15 6,aq 16 .lss 15 0,aa 17 16,cQ 18 17 (cM 6),cQ 19 17 (cM 1),cQ 20 17 (cB .geq (t 18) (t 19)),cO 21 (pick (t 17) dQ (t 20)),aa 14 21] (az 14 (ac [cO 4 (mov (cN 2))] ret) (ac [aa 23 5,aq 24 .gtr 23 0,aa 25 24,al 26 25 (cM 0),al 27 25 (cM 5),al 28 25 (cB .sub (t 27) (cN 1)),al 29 25 (ixaS 1 (t 26) (t 28)),al 30 25 (cD 29),al 31 25 (cM 6),al 32 25 (cB .geq (t 30) (t 31)),cO 33 (pick (t 25) (t 32) a9),aa 22 33] (az 22 (ac [cO 4 (mov (cN 14))] ret) skip))))))).seq (ops 0 [aq 34 .add 9 1,aa 9 34])))).loop)).seq (ac [cO 4 (mov (cN 0))] ret))))
theorem Hy:Is Tryz.prog 108 Gn:=mkI Tryz.func108
def FG:F2:=(F2.mk 27 [RV.t 4] (ac [cO 4 (mov (c AV.esl))] ((ac [aa 5 1,aq 6 .lss 5 0] (az 6 (ops 0 [cO 7 dead,Op2.mk none none dead]) skip)).seq ((ac [aa 8 1,aa 9 0,cO 10 (capE (t 9)),aa 11 0,bn 12 11,aJ 13 .sub 10 12,aJ 14 .sub 8 13,aa 1 14] (ac [aa 15 1,aq 16 .gtr 15 0] (az 16 (ops 0 [aa 17 0,aa 18 0,cO 19 (capE (t 18)),cO 20 (sls 2 (t 17) none (some (t 19)) none),aa 21 1,cO 22 (apz 2 16 [aX,aX] (t 20) (t 21)),aa 23 0,bn 24 23,cO 25 (sls 2 (t 22) none (some (t 24)) none),aa 0 25]) skip))).seq (ac [aa 26 0,aa 4 26] ret)))))
theorem D0:Is Tryz.prog 109 FG:=mkI Tryz.func109
def EH:F2:=(F2.mk 19 [RV.t 4] (ac [cO 4 (mov (cN 0))] ((ac [aa 6 0,bn 7 6,cO 8 (mov (cN 0))] (block 0 (ac [aJ 9 .lss 8 7] ((az 9 skip (exit 0)).seq ((block 1 (ac [aa 10 8,aa 5 10] (ac [aa 11 1,aa 12 0,aa 13 5,cO 14 (ixaS 1 (t 12) (t 13)),aN 15 14,cO 16 (call (t 11) [t 15])] (az 16 (ac [aa 17 5,aa 4 17] ret) skip)))).seq (ops 0 [aq 18 .add 8 1,aa 8 18])))).loop)).seq (ac [cO 4 (mov (cN ((-1))))] ret))))
theorem D4:Is Tryz.prog 110 EH:=mkI Tryz.func110
def EA:F2:=(F2.mk 6 [RV.t 2] (ac [cO 2 (mov a9)] (ac [aa 3 0,aa 4 0,aJ 5 .neq 3 4,aa 2 5] ret)))
theorem Ex:Is Tryz.prog 111 EA:=mkI Tryz.func111
def Dd:F2:=(F2.mk 53 [] (ac [aa 10 1,aq 11 .add 10 1,aa 8 11] (block 0 ((ac [aa 12 8,aa 13 2,aJ 14 .lss 12 13] (az 14 skip (exit 0))).seq ((block 1 (ac [aa 17 8,aa 9 17] (block 2 (((mixS 1 [aa 18 9,aa 19 1,aJ 20 .gtr 18 19,aa 21 20,al 22 21 (cM 3),al 23 21 (cM 0),al 24 21 (cM 9),al 25 21 (ixaS 2 (t 23) (t 24)),al 26 21 (ldn 2 (t 25)),al 27 21 (cM 0),al 28 21 (cM 9),al 29 21 (cB .sub (t 28) (cN 1)),al 30 21 (ixaS 2 (t 27) (t 29)),al 31 21 (ldn 2 (t 30)),al 32 21 (call (t 22) [t 26,t 31]),al 33 21 (cB .lss (t 32) (cN 0)),cO 34 (pick (t 21) (t 33) a9)] [(0,0),(1,0),(2,0),(3,0),(4,0),(5,0),(6,0),(7,0),(8,0),(9,0),(10,0),(11,0),(12,0),(13,0),(14,2),(15,0),(16,0)]).seq (az 34 skip (exit 2))).seq ((block 3 (ops 1 [aa 37 0,aa 38 9,aa 39 0,aa 40 9,aq 41 .sub 40 1,aa 42 0,aa 43 9,aq 44 .sub 43 1,cO 45 (ixaS 2 (t 42) (t 44)),aM 46 2 45,aa 47 0,aa 48 9,cO 49 (ixaS 2 (t 47) (t 48)),aM 50 2 49,cO 51 (ixaS 2 (t 37) (t 38)),aV 2 51 46,cO 52 (ixaS 2 (t 39) (t 41)),aV 2 52 50])).seq (ops 0 [aa 35 9,aq 36 .sub 35 1,aa 9 36]))).loop))).seq (ops 0 [aa 15 8,aq 16 .add 15 1,aa 8 16]))).loop)))
theorem BL:Is Tryz.prog 112 Dd:=mkI Tryz.func112
def EU:F2:=(F2.mk 60 [] (ac [aa 13 1,aa 8 13] (ac [cO 9 (mov (cN 0))] (ac [aa 14 2,aa 15 1,aJ 16 .sub 14 15,aa 10 16] ((ac [aa 17 10,aq 18 .sub 17 1,aq 19 .quo 18 2,aa 11 19] (block 0 ((ac [aa 20 11,aq 21 .geq 20 0] (az 21 skip (exit 0))).seq ((block 1 (ops 0 [aa 24 0,aa 25 11,aa 26 10,aa 27 8,aa 28 3,aL 29 132 [t 24,t 25,t 26,t 27,t 28]])).seq (ops 0 [aa 22 11,aq 23 .sub 22 1,aa 11 23]))).loop)).seq (ac [aa 30 10,aq 31 .sub 30 1,aa 12 31] (block 2 ((ac [aa 32 12,aq 33 .geq 32 0] (az 33 skip (exit 2))).seq ((block 3 ((ops 1 [aa 36 0,aa 37 8,aa 38 0,aa 39 8,aa 40 12,aJ 41 .add 39 40,aa 42 0,aa 43 8,aa 44 12,aJ 45 .add 43 44,cO 46 (ixaS 2 (t 42) (t 45)),aM 47 2 46,aa 48 0,aa 49 8,cO 50 (ixaS 2 (t 48) (t 49)),aM 51 2 50,cO 52 (ixaS 2 (t 36) (t 37)),aV 2 52 47,cO 53 (ixaS 2 (t 38) (t 41)),aV 2 53 51]).seq (ops 0 [aa 54 0,aa 55 9,aa 56 12,aa 57 8,aa 58 3,aL 59 132 [t 54,t 55,t 56,t 57,t 58]]))).seq (ops 0 [aa 34 12,aq 35 .sub 34 1,aa 12 35]))).loop)))))))
theorem Ez:Is Tryz.prog 113 EU:=mkI Tryz.func113
def FH:F2:=(F2.mk 67 [] (ac [aa 13 2,aa 14 1,aJ 15 .sub 13 14,aa 8 15] (ac [aa 16 8,aq 17 .geq 16 8] (az 17 (ac [aa 18 8,cO 19 (conv IntKind.u64 (t 18)),cO 9 (alloc (AV.int IntKind.u64 (0))),aV 1 9 19] (ac [aa 20 8,aL 21 133 [t 20],aa 10 21] (ac [aa 22 1,aa 23 8,aq 24 .quo 23 4,aq 25 .mul 24 2,aJ 26 .add 22 25,aq 27 .sub 26 1,aa 11 27] (block 0 ((ac [aa 28 11,aa 29 1,aa 30 8,aq 31 .quo 30 4,aq 32 .mul 31 2,aJ 33 .add 29 32,aq 34 .add 33 1,aJ 35 .leq 28 34] (az 35 skip (exit 0))).seq ((block 1 (ac [aL 38 134 [t 9],aa 39 10,cO 40 (cB .sub (t 39) (c (AV.int IntKind.u64 (1)))),aJ 41 .and 38 40,cO 42 (conv IntKind.i64 (t 41)),aa 12 42] ((ac [aa 43 12,aa 44 8,aJ 45 .geq 43 44] (az 45 (ops 0 [aa 46 12,aa 47 8,aJ 48 .sub 46 47,aa 12 48]) skip)).seq (ops 1 [aa 49 0,aa 50 11,aa 51 0,aa 52 1,aa 53 12,aJ 54 .add 52 53,aa 55 0,aa 56 1,aa 57 12,aJ 58 .add 56 57,cO 59 (ixaS 2 (t 55) (t 58)),aM 60 2 59,aa 61 0,aa 62 11,cO 63 (ixaS 2 (t 61) (t 62)),aM 64 2 63,cO 65 (ixaS 2 (t 49) (t 50)),aV 2 65 60,cO 66 (ixaS 2 (t 51) (t 54)),aV 2 66 64])))).seq (ops 0 [aa 36 11,aq 37 .add 36 1,aa 11 37]))).loop)))) skip))))
theorem Er:Is Tryz.prog 114 FH:=mkI Tryz.func114
def Fv:F2:=(F2.mk 63 [RV.t 8,RV.t 9] (ac [cO 8 (mov (cN 0)),cO 9 (mov (cN 0))] (ac [aa 15 2,aa 16 1,aJ 17 .sub 15 16,aa 10 17] (ac [cO 11 (alloc (aX))] (ac [aa 18 1,aa 19 10,aq 20 .quo 19 4,aq 21 .mul 20 1,aJ 22 .add 18 21,aa 12 22] (ac [aa 23 1,aa 24 10,aq 25 .quo 24 4,aq 26 .mul 25 2,aJ 27 .add 23 26,aa 13 27] (ac [aa 28 1,aa 29 10,aq 30 .quo 29 4,aq 31 .mul 30 3,aJ 32 .add 28 31,aa 14 32] ((ac [aa 33 10,aq 34 .geq 33 8] (az 34 ((ac [aa 35 10,aq 36 .geq 35 50] (az 36 (ac [aa 37 0,aa 38 12,aa 39 3,aL 40 135 [t 37,t 38,t 11,t 39],aa 12 40] (ac [aa 41 0,aa 42 13,aa 43 3,aL 44 135 [t 41,t 42,t 11,t 43],aa 13 44] (ops 0 [aa 45 0,aa 46 14,aa 47 3,aL 48 135 [t 45,t 46,t 11,t 47],aa 14 48]))) skip)).seq (ops 0 [aa 49 0,aa 50 12,aa 51 13,aa 52 14,aa 53 3,aL 54 136 [t 49,t 50,t 51,t 52,t 11,t 53],aa 13 54])) skip)).seq (ac [aN 55 11] (block 0 (ac [aq 58 .eql 55 0,aa 57 58] (az 57 (ac [aa 59 13,aa 8 59,cO 9 (mov (cN 1))] ret) (ac [aq 61 .eql 55 12,aa 60 61] (az 60 (ac [aa 62 13,aa 8 62,cO 9 (mov (cN 2))] ret) (ac [aa 56 13,aa 8 56,cO 9 (mov (cN 0))] ret)))))))))))))))
theorem D7:Is Tryz.prog 115 Fv:=mkI Tryz.func115
def Fd:F2:=(F2.mk 34 [] (ac [aa 10 1,aa 8 10] (ac [aa 11 2,aq 12 .sub 11 1,aa 9 12] (block 0 ((ac [aa 13 8,aa 14 9,aJ 15 .lss 13 14] (az 15 skip (exit 0))).seq (block 1 ((ops 1 [aa 16 0,aa 17 8,aa 18 0,aa 19 9,aa 20 0,aa 21 9,cO 22 (ixaS 2 (t 20) (t 21)),aM 23 2 22,aa 24 0,aa 25 8,cO 26 (ixaS 2 (t 24) (t 25)),aM 27 2 26,cO 28 (ixaS 2 (t 16) (t 17)),aV 2 28 23,cO 29 (ixaS 2 (t 18) (t 19)),aV 2 29 27]).seq (ac [aa 30 8,aq 31 .add 30 1,aa 8 31] (ops 0 [aa 32 9,aq 33 .sub 32 1,aa 9 33]))))).loop))))
theorem Ei:Is Tryz.prog 116 Fd:=mkI Tryz.func116
def F1:F2:=(F2.mk 141 [RV.t 8] (ac [cO 8 (mov a9)] (ac [aa 13 1,aq 14 .add 13 1,aa 9 14] ((ac [cO 10 (mov (cN 0))] (block 0 ((ac [aa 15 10,aq 16 .lss 15 5] (az 16 skip (exit 0))).seq ((block 1 ((block 2 (((mixS 1 [aa 19 9,aa 20 2,aJ 21 .lss 19 20,aa 22 21,al 23 22 (cM 3),al 24 22 (cM 0),al 25 22 (cM 9),al 26 22 (ixaS 2 (t 24) (t 25)),al 27 22 (ldn 2 (t 26)),al 28 22 (cM 0),al 29 22 (cM 9),al 30 22 (cB .sub (t 29) (cN 1)),al 31 22 (ixaS 2 (t 28) (t 30)),al 32 22 (ldn 2 (t 31)),al 33 22 (call (t 23) [t 27,t 32]),al 34 22 (cB .lss (t 33) (cN 0)),al 35 22 (un UnOp.not (t 34)),cO 36 (pick (t 22) (t 35) a9)] [(0,0),(1,0),(2,0),(3,0),(4,0),(5,0),(6,0),(7,0),(8,0),(9,0),(10,0),(11,0),(12,0),(13,0),(14,2),(15,0),(16,0),(17,0)]).seq (az 36 skip (exit 2))).seq (block 3 (ops 0 [aa 37 9,aq 38 .add 37 1,aa 9 38]))).loop).seq ((ac [aa 39 9,aa 40 2,aJ 41 .eql 39 40] (az 41 (ac [cO 8 (mov dQ)] ret) skip)).seq ((ac [aa 42 2,aa 43 1,aJ 44 .sub 42 43,aq 45 .lss 44 50] (az 45 (ac [cO 8 (mov a9)] ret) skip)).seq ((ops 1 [aa 46 0,aa 47 9,aa 48 0,aa 49 9,aq 50 .sub 49 1,aa 51 0,aa 52 9,aq 53 .sub 52 1,cO 54 (ixaS 2 (t 51) (t 53)),aM 55 2 54,aa 56 0,aa 57 9,cO 58 (ixaS 2 (t 56) (t 57)),aM 59 2 58,cO 60 (ixaS 2 (t 46) (t 47)),aV 2 60 55,cO 61 (ixaS 2 (t 48) (t 50)),aV 2 61 59]).seq ((ac [aa 62 9,aa 63 1,aJ 64 .sub 62 63,aq 65 .geq 64 2] (az 65 (ac [aa 66 9,aq 67 .sub 66 1,aa 11 67] (block 4 ((ac [aa 68 11,aq 69 .geq 68 1] (az 69 skip (exit 4))).seq ((block 5 (((mixS 1 [aa 72 3,aa 73 0,aa 74 11,cO 75 (ixaS 2 (t 73) (t 74)),aM 76 2 75,aa 77 0,aa 78 11,aq 79 .sub 78 1,cO 80 (ixaS 2 (t 77) (t 79)),aM 81 2 80,cO 82 (call (t 72) [t 76,t 81]),aq 83 .lss 82 0,cO 84 (un UnOp.not (t 83))] [(0,0),(1,0),(2,0),(3,0),(4,0),(5,0),(6,0),(7,0),(8,0),(9,0),(10,2),(11,0),(12,0)]).seq (az 84 (exit 4) skip)).seq (ops 1 [aa 85 0,aa 86 11,aa 87 0,aa 88 11,aq 89 .sub 88 1,aa 90 0,aa 91 11,aq 92 .sub 91 1,cO 93 (ixaS 2 (t 90) (t 92)),aM 94 2 93,aa 95 0,aa 96 11,cO 97 (ixaS 2 (t 95) (t 96)),aM 98 2 97,cO 99 (ixaS 2 (t 85) (t 86)),aV 2 99 94,cO 100 (ixaS 2 (t 87) (t 89)),aV 2 100 98]))).seq (ops 0 [aa 70 11,aq 71 .sub 70 1,aa 11 71]))).loop)) skip)).seq (ac [aa 101 2,aa 102 9,aJ 103 .sub 101 102,aq 104 .geq 103 2] (az 104 (ac [aa 105 9,aq 106 .add 105 1,aa 12 106] (block 6 ((ac [aa 107 12,aa 108 2,aJ 109 .lss 107 108] (az 109 skip (exit 6))).seq ((block 7 (((mixS 1 [aa 112 3,aa 113 0,aa 114 12,cO 115 (ixaS 2 (t 113) (t 114)),aM 116 2 115,aa 117 0,aa 118 12,aq 119 .sub 118 1,cO 120 (ixaS 2 (t 117) (t 119)),aM 121 2 120,cO 122 (call (t 112) [t 116,t 121]),aq 123 .lss 122 0,cO 124 (un UnOp.not (t 123))] [(0,0),(1,0),(2,0),(3,0),(4,0),(5,0),(6,0),(7,0),(8,0),(9,0),(10,2),(11,0),(12,0)]).seq (az 124 (exit 6) skip)).seq (ops 1 [aa 125 0,aa 126 12,aa 127 0,aa 128 12,aq 129 .sub 128 1,aa 130 0,aa 131 12,aq 132 .sub 131 1,cO 133 (ixaS 2 (t 130) (t 132)),aM 134 2 133,aa 135 0,aa 136 12,cO 137 (ixaS 2 (t 135) (t 136)),aM 138 2 137,cO 139 (ixaS 2 (t 125) (t 126)),aV 2 139 134,cO 140 (ixaS 2 (t 127) (t 129)),aV 2 140 138]))).seq (ops 0 [aa 110 12,aq 111 .add 110 1,aa 12 111]))).loop)) skip)))))))).seq (ops 0 [aa 17 10,aq 18 .add 17 1,aa 10 18]))).loop)).seq (ac [cO 8 (mov a9)] ret)))))
theorem Eg:Is Tryz.prog 117 F1:=mkI Tryz.func117
def EE:F2:=(F2.mk 90 [RV.t 10] (ac [cO 10 (mov (cN 0))] ((ops 1 [aa 13 0,aa 14 1,aa 15 0,aa 16 3,aa 17 0,aa 18 3,cO 19 (ixaS 2 (t 17) (t 18)),aM 20 2 19,aa 21 0,aa 22 1,cO 23 (ixaS 2 (t 21) (t 22)),aM 24 2 23,cO 25 (ixaS 2 (t 13) (t 14)),aV 2 25 20,cO 26 (ixaS 2 (t 15) (t 16)),aV 2 26 24]).seq (ac [aa 27 1,aq 28 .add 27 1,aa 29 2,aq 30 .sub 29 1,aa 11 28,aa 12 30] ((block 0 (block 1 ((block 2 (((mixS 1 [aa 31 11,aa 32 12,aJ 33 .leq 31 32,aa 34 33,al 35 34 (cM 4),al 36 34 (cM 0),al 37 34 (cM 1),al 38 34 (ixaS 2 (t 36) (t 37)),al 39 34 (ldn 2 (t 38)),al 40 34 (cM 0),al 41 34 (cM 11),al 42 34 (ixaS 2 (t 40) (t 41)),al 43 34 (ldn 2 (t 42)),al 44 34 (call (t 35) [t 39,t 43]),al 45 34 (cB .lss (t 44) (cN 0)),al 46 34 (un UnOp.not (t 45)),cO 47 (pick (t 34) (t 46) a9)] [(0,0),(1,0),(2,0),(3,0),(4,0),(5,0),(6,0),(7,0),(8,0),(9,0),(10,0),(11,0),(12,0),(13,2),(14,0),(15,0),(16,0)]).seq (az 47 skip (exit 2))).seq (block 3 (ops 0 [aa 48 11,aq 49 .add 48 1,aa 11 49]))).loop).seq ((block 4 (((mixS 1 [aa 50 11,aa 51 12,aJ 52 .leq 50 51,aa 53 52,al 54 53 (cM 4),al 55 53 (cM 0),al 56 53 (cM 1),al 57 53 (ixaS 2 (t 55) (t 56)),al 58 53 (ldn 2 (t 57)),al 59 53 (cM 0),al 60 53 (cM 12),al 61 53 (ixaS 2 (t 59) (t 60)),al 62 53 (ldn 2 (t 61)),al 63 53 (call (t 54) [t 58,t 62]),al 64 53 (cB .lss (t 63) (cN 0)),cO 65 (pick (t 53) (t 64) a9)] [(0,0),(1,0),(2,0),(3,0),(4,0),(5,0),(6,0),(7,0),(8,0),(9,0),(10,0),(11,0),(12,0),(13,2),(14,0),(15,0)]).seq (az 65 skip (exit 4))).seq (block 5 (ops 0 [aa 66 12,aq 67 .sub 66 1,aa 12 67]))).loop).seq ((ac [aa 68 11,aa 69 12,aJ 70 .gtr 68 69] (az 70 (exit 0) skip)).seq ((ops 1 [aa 71 0,aa 72 11,aa 73 0,aa 74 12,aa 75 0,aa 76 12,cO 77 (ixaS 2 (t 75) (t 76)),aM 78 2 77,aa 79 0,aa 80 11,cO 81 (ixaS 2 (t 79) (t 80)),aM 82 2 81,cO 83 (ixaS 2 (t 71) (t 72)),aV 2 83 78,cO 84 (ixaS 2 (t 73) (t 74)),aV 2 84 82]).seq (ac [aa 85 11,aq 86 .add 85 1,aa 11 86] (ops 0 [aa 87 12,aq 88 .sub 87 1,aa 12 88]))))))).loop).seq (ac [aa 89 11,aa 10 89] ret))))))
theorem Es:Is Tryz.prog 118 EE:=mkI Tryz.func118
def EY:F2:=(F2.mk 178 [RV.t 10,RV.t 11] (ac [cO 10 (mov (cN 0)),cO 11 (mov a9)] ((ops 1 [aa 14 0,aa 15 1,aa 16 0,aa 17 3,aa 18 0,aa 19 3,cO 20 (ixaS 2 (t 18) (t 19)),aM 21 2 20,aa 22 0,aa 23 1,cO 24 (ixaS 2 (t 22) (t 23)),aM 25 2 24,cO 26 (ixaS 2 (t 14) (t 15)),aV 2 26 21,cO 27 (ixaS 2 (t 16) (t 17)),aV 2 27 25]).seq (ac [aa 28 1,aq 29 .add 28 1,aa 30 2,aq 31 .sub 30 1,aa 12 29,aa 13 31] ((block 0 (((mixS 1 [aa 32 12,aa 33 13,aJ 34 .leq 32 33,aa 35 34,al 36 35 (cM 4),al 37 35 (cM 0),al 38 35 (cM 12),al 39 35 (ixaS 2 (t 37) (t 38)),al 40 35 (ldn 2 (t 39)),al 41 35 (cM 0),al 42 35 (cM 1),al 43 35 (ixaS 2 (t 41) (t 42)),al 44 35 (ldn 2 (t 43)),al 45 35 (call (t 36) [t 40,t 44]),al 46 35 (cB .lss (t 45) (cN 0)),cO 47 (pick (t 35) (t 46) a9)] [(0,0),(1,0),(2,0),(3,0),(4,0),(5,0),(6,0),(7,0),(8,0),(9,0),(10,0),(11,0),(12,0),(13,2),(14,0),(15,0)]).seq (az 47 skip (exit 0))).seq (block 1 (ops 0 [aa 48 12,aq 49 .add 48 1,aa 12 49]))).loop).seq ((block 2 (((mixS 1 [aa 50 12,aa 51 13,aJ 52 .leq 50 51,aa 53 52,al 54 53 (cM 4),al 55 53 (cM 0),al 56 53 (cM 13),al 57 53 (ixaS 2 (t 55) (t 56)),al 58 53 (ldn 2 (t 57)),al 59 53 (cM 0),al 60 53 (cM 1),al 61 53 (ixaS 2 (t 59) (t 60)),al 62 53 (ldn 2 (t 61)),al 63 53 (call (t 54) [t 58,t 62]),al 64 53 (cB .lss (t 63) (cN 0)),al 65 53 (un UnOp.not (t 64)),cO 66 (pick (t 53) (t 65) a9)] [(0,0),(1,0),(2,0),(3,0),(4,0),(5,0),(6,0),(7,0),(8,0),(9,0),(10,0),(11,0),(12,0),(13,2),(14,0),(15,0),(16,0)]).seq (az 66 skip (exit 2))).seq (block 3 (ops 0 [aa 67 13,aq 68 .sub 67 1,aa 13 68]))).loop).seq ((ac [aa 69 12,aa 70 13,aJ 71 .gtr 69 70] (az 71 ((ops 1 [aa 72 0,aa 73 13,aa 74 0,aa 75 1,aa 76 0,aa 77 1,cO 78 (ixaS 2 (t 76) (t 77)),aM 79 2 78,aa 80 0,aa 81 13,cO 82 (ixaS 2 (t 80) (t 81)),aM 83 2 82,cO 84 (ixaS 2 (t 72) (t 73)),aV 2 84 79,cO 85 (ixaS 2 (t 74) (t 75)),aV 2 85 83]).seq (ac [aa 86 13,aa 10 86,cO 11 (mov dQ)] ret)) skip)).seq ((ops 1 [aa 87 0,aa 88 12,aa 89 0,aa 90 13,aa 91 0,aa 92 13,cO 93 (ixaS 2 (t 91) (t 92)),aM 94 2 93,aa 95 0,aa 96 12,cO 97 (ixaS 2 (t 95) (t 96)),aM 98 2 97,cO 99 (ixaS 2 (t 87) (t 88)),aV 2 99 94,cO 100 (ixaS 2 (t 89) (t 90)),aV 2 100 98]).seq (ac [aa 101 12,aq 102 .add 101 1,aa 12 102] (ac [aa 103 13,aq 104 .sub 103 1,aa 13 104] ((block 4 (block 5 ((block 6 (((mixS 1 [aa 105 12,aa 106 13,aJ 107 .leq 105 106,aa 108 107,al 109 108 (cM 4),al 110 108 (cM 0),al 111 108 (cM 12),al 112 108 (ixaS 2 (t 110) (t 111)),al 113 108 (ldn 2 (t 112)),al 114 108 (cM 0),al 115 108 (cM 1),al 116 108 (ixaS 2 (t 114) (t 115)),al 117 108 (ldn 2 (t 116)),al 118 108 (call (t 109) [t 113,t 117]),al 119 108 (cB .lss (t 118) (cN 0)),cO 120 (pick (t 108) (t 119) a9)] [(0,0),(1,0),(2,0),(3,0),(4,0),(5,0),(6,0),(7,0),(8,0),(9,0),(10,0),(11,0),(12,0),(13,2),(14,0),(15,0)]).seq (az 120 skip (exit 6))).seq (block 7 (ops 0 [aa 121 12,aq 122 .add 121 1,aa 12 122]))).loop).seq ((block 8 (((mixS 1 [aa 123 12,aa 124 13,aJ 125 .leq 123 124,aa 126 125,al 127 126 (cM 4),al 128 126 (cM 0),al 129 126 (cM 13),al 130 126 (ixaS 2 (t 128) (t 129)),al 131 126 (ldn 2 (t 130)),al 132 126 (cM 0),al 133 126 (cM 1),al 134 126 (ixaS 2 (t 132) (t 133)),al 135 126 (ldn 2 (t 134)),al 136 126 (call (t 127) [t 131,t 135]),al 137 126 (cB .lss (t 136) (cN 0)),al 138 126 (un UnOp.not (t 137)),cO 139 (pick (t 126) (t 138) a9)] [(0,0),(1,0),(2,0),(3,0),(4,0),(5,0),(6,0),(7,0),(8,0),(9,0),(10,0),(11,0),(12,0),(13,2),(14,0),(15,0),(16,0)]).seq (az 139 skip (exit 8))).seq (block 9 (ops 0 [aa 140 13,aq 141 .sub 140 1,aa 13 141]))).loop).seq ((ac [aa 142 12,aa 143 13,aJ 144 .gtr 142 143] (az 144 (exit 4) skip)).seq ((ops 1 [aa 145 0,aa 146 12,aa 147 0,aa 148 13,aa 149 0,aa 150 13,cO 151 (ixaS 2 (t 149) (t 150)),aM 152 2 151,aa 153 0,aa 154 12,cO 155 (ixaS 2 (t 153) (t 154)),aM 156 2 155,cO 157 (ixaS 2 (t 145) (t 146)),aV 2 157 152,cO 158 (ixaS 2 (t 147) (t 148)),aV 2 158 156]).seq (ac [aa 159 12,aq 160 .add 159 1,aa 12 160] (ops 0 [aa 161 13,aq 162 .sub 161 1,aa 13 162]))))))).loop).seq ((ops 1 [aa 163 0,aa 164 13,aa 165 0,aa 166 1,aa 167 0,aa 168 1,cO 169 (ixaS 2 (t 167) (t 168)),aM 170 2 169,aa 171 0,aa 172 13,cO 173 (ixaS 2 (t 171) (t 172)),aM 174 2 173,cO 175 (ixaS 2 (t 163) (t 164)),aV 2 175 170,cO 176 (ixaS 2 (t 165) (t 166)),aV 2 176 174]).seq (ac [aa 177 13,aa 10 177,cO 11 (mov a9)] ret)))))))))))))
theorem Em:Is Tryz.prog 119 EY:=mkI Tryz.func119
def Hn:F2:=(F2.mk 19 [RV.t 2] (ac [cO 2 (mov (cN 0))] ((ac [aa 3 0,cO 4 (cB .geq (t 3) (c (AV.int IntKind.u32 (65536))))] (az 4 (ac [aa 5 0,cO 6 (cB .shr (t 5) (c (AV.int IntKind.u64 (16)))),aa 0 6] (ops 0 [cO 2 (mov (cN 16))])) skip)).seq ((ac [aa 7 0,cO 8 (cB .geq (t 7) (c (AV.int IntKind.u32 (256))))] (az 8 (ac [aa 9 0,cO 10 (cB .shr (t 9) (c (AV.int IntKind.u64 (8)))),aa 0 10] (ops 0 [aa 11 2,aq 12 .add 11 8,aa 2 12])) skip)).seq (ac [aa 13 2,aa 14 0,cO 15 (conv IntKind.u8 (t 14)),cO 16 (ixStr (c (AV.str (ByteArray.mk (Array.mk [0,1,2,2,3,3,3,3,4,4,4,4,4,4,4,4,5,5,5,5,5,5,5,5,5,5,5,5,5,5,5,5,6,6,6,6,6,6,6,6,6,6,6,6,6,6,6,6,6,6,6,6,6,6,6,6,6,6,6,6,6,6,6,6,7,7,7,7,7,7,7,7,7,7,7,7,7,7,7,7,7,7,7,7,7,7,7,7,7,7,7,7,7,7,7,7,7,7,7,7,7,7,7,7,7,7,7,7,7,7,7,7,7,7,7,7,7,7,7,7,7,7,7,7,7,7,7,7,8,8,8,8,8,8,8,8,8,8,8,8,8,8,8,8,8,8,8,8,8,8,8,8,8,8,8,8,8,8,8,8,8,8,8,8,8,8,8,8,8,8,8,8,8,8,8,8,8,8,8,8,8,8,8,8,8,8,8,8,8,8,8,8,8,8,8,8,8,8,8,8,8,8,8,8,8,8,8,8,8,8,8,8,8,8,8,8,8,8,8,8,8,8,8,8,8,8,8,8,8,8,8,8,8,8,8,8,8,8,8,8,8,8,8,8,8,8,8,8,8,8,8,8,8,8,8,8])))) (t 15)),cO 17 (conv IntKind.i64 (t 16)),aJ 18 .add 13 17,aa 2 18] ret)))))
theorem F9:Is Tryz.prog 120 Hn:=mkI Tryz.func120
def Dg:F2:=(F2.mk 25 [RV.t 2] (ac [cO 2 (mov (cN 0))] ((ac [aa 3 0,cO 4 (cB .geq (t 3) (c (AV.int IntKind.u64 (4294967296))))] (az 4 (ac [aa 5 0,cO 6 (cB .shr (t 5) (c (AV.int IntKind.u64 (32)))),aa 0 6] (ops 0 [cO 2 (mov (cN 32))])) skip)).seq ((ac [aa 7 0,cO 8 (cB .geq (t 7) (c (AV.int IntKind.u64 (65536))))] (az 8 (ac [aa 9 0,cO 10 (cB .shr (t 9) (c (AV.int IntKind.u64 (16)))),aa 0 10] (ops 0 [aa 11 2,aq 12 .add 11 16,aa 2 12])) skip)).seq ((ac [aa 13 0,cO 14 (cB .geq (t 13) (c (AV.int IntKind.u64 (256))))] (az 14 (ac [aa 15 0,cO 16 (cB .shr (t 15) (c (AV.int IntKind.u64 (8)))),aa 0 16] (ops 0 [aa 17 2,aq 18 .add 17 8,aa 2 18])) skip)).seq (ac [aa 19 2,aa 20 0,cO 21 (conv IntKind.u8 (t 20)),cO 22 (ixStr (c (AV.str (ByteArray.mk (Array.mk [0,1,2,2,3,3,3,3,4,4,4,4,4,4,4,4,5,5,5,5,5,5,5,5,5,5,5,5,5,5,5,5,6,6,6,6,6,6,6,6,6,6,6,6,6,6,6,6,6,6,6,6,6,6,6,6,6,6,6,6,6,6,6,6,7,7,7,7,7,7,7,7,7,7,7,7,7,7,7,7,7,7,7,7,7,7,7,7,7,7,7,7,7,7,7,7,7,7,7,7,7,7,7,7,7,7,7,7,7,7,7,7,7,7,7,7,7,7,7,7,7,7,7,7,7,7,7,7,8,8,8,8,8,8,8,8,8,8,8,8,8,8,8,8,8,8,8,8,8,8,8,8,8,8,8,8,8,8,8,8,8,8,8,8,8,8,8,8,8,8,8,8,8,8,8,8,8,8,8,8,8,8,8,8,8,8,8,8,8,8,8,8,8,8,8,8,8,8,8,8,8,8,8,8,8,8,8,8,8,8,8,8,8,8,8,8,8,8,8,8,8,8,8,8,8,8,8,8,8,8,8,8,8,8,8,8,8,8,8,8,8,8,8,8,8,8,8,8,8,8,8,8,8,8,8,8])))) (t 21)),cO 23 (conv IntKind.i64 (t 22)),aJ 24 .add 19 23,aa 2 24] ret))))))
theorem CH:Is Tryz.prog 121 Dg:=mkI Tryz.func121
def CY:F2:=(F2.mk 53 [] (ac [aa 10 1,aq 11 .add 10 1,aa 8 11] (block 0 ((ac [aa 12 8,aa 13 2,aJ 14 .lss 12 13] (az 14 skip (exit 0))).seq ((block 1 (ac [aa 17 8,aa 9 17] (block 2 (((mixS 1 [aa 18 9,aa 19 1,aJ 20 .gtr 18 19,aa 21 20,al 22 21 (cM 3),al 23 21 (cM 0),al 24 21 (cM 9),al 25 21 (ixaS 1 (t 23) (t 24)),al 26 21 (cD 25),al 27 21 (cM 0),al 28 21 (cM 9),al 29 21 (cB .sub (t 28) (cN 1)),al 30 21 (ixaS 1 (t 27) (t 29)),al 31 21 (cD 30),al 32 21 (call (t 22) [t 26,t 31]),al 33 21 (cB .lss (t 32) (cN 0)),cO 34 (pick (t 21) (t 33) a9)] [(0,0),(1,0),(2,0),(3,0),(4,0),(5,0),(6,0),(7,0),(8,0),(9,0),(10,0),(11,0),(12,0),(13,0),(14,2),(15,0),(16,0)]).seq (az 34 skip (exit 2))).seq ((block 3 (ops 1 [aa 37 0,aa 38 9,aa 39 0,aa 40 9,aq 41 .sub 40 1,aa 42 0,aa 43 9,aq 44 .sub 43 1,cO 45 (ixaS 1 (t 42) (t 44)),aN 46 45,aa 47 0,aa 48 9,cO 49 (ixaS 1 (t 47) (t 48)),aN 50 49,cO 51 (ixaS 1 (t 37) (t 38)),aV 1 51 46,cO 52 (ixaS 1 (t 39) (t 41)),aV 1 52 50])).seq (ops 0 [aa 35 9,aq 36 .sub 35 1,aa 9 36]))).loop))).seq (ops 0 [aa 15 8,aq 16 .add 15 1,aa 8 16]))).loop)))
theorem Cb:Is Tryz.prog 122 CY:=mkI Tryz.func122
def F6:F2:=(F2.mk 60 [] (ac [aa 13 1,aa 8 13] (ac [cO 9 (mov (cN 0))] (ac [aa 14 2,aa 15 1,aJ 16 .sub 14 15,aa 10 16] ((ac [aa 17 10,aq 18 .sub 17 1,aq 19 .quo 18 2,aa 11 19] (block 0 ((ac [aa 20 11,aq 21 .geq 20 0] (az 21 skip (exit 0))).seq ((block 1 (ops 0 [aa 24 0,aa 25 11,aa 26 10,aa 27 8,aa 28 3,aL 29 137 [t 24,t 25,t 26,t 27,t 28]])).seq (ops 0 [aa 22 11,aq 23 .sub 22 1,aa 11 23]))).loop)).seq (ac [aa 30 10,aq 31 .sub 30 1,aa 12 31] (block 2 ((ac [aa 32 12,aq 33 .geq 32 0] (az 33 skip (exit 2))).seq ((block 3 ((ops 1 [aa 36 0,aa 37 8,aa 38 0,aa 39 8,aa 40 12,aJ 41 .add 39 40,aa 42 0,aa 43 8,aa 44 12,aJ 45 .add 43 44,cO 46 (ixaS 1 (t 42) (t 45)),aN 47 46,aa 48 0,aa 49 8,cO 50 (ixaS 1 (t 48) (t 49)),aN 51 50,cO 52 (ixaS 1 (t 36) (t 37)),aV 1 52 47,cO 53 (ixaS 1 (t 38) (t 41)),aV 1 53 51]).seq (ops 0 [aa 54 0,aa 55 9,aa 56 12,aa 57 8,aa 58 3,aL 59 137 [t 54,t 55,t 56,t 57,t 58]]))).seq (ops 0 [aa 34 12,aq 35 .sub 34 1,aa 12 35]))).loop)))))))
theorem D2:Is Tryz.prog 123 F6:=mkI Tryz.func123
def Fl:F2:=(F2.mk 67 [] (ac [aa 13 2,aa 14 1,aJ 15 .sub 13 14,aa 8 15] (ac [aa 16 8,aq 17 .geq 16 8] (az 17 (ac [aa 18 8,cO 19 (conv IntKind.u64 (t 18)),cO 9 (alloc (AV.int IntKind.u64 (0))),aV 1 9 19] (ac [aa 20 8,aL 21 133 [t 20],aa 10 21] (ac [aa 22 1,aa 23 8,aq 24 .quo 23 4,aq 25 .mul 24 2,aJ 26 .add 22 25,aq 27 .sub 26 1,aa 11 27] (block 0 ((ac [aa 28 11,aa 29 1,aa 30 8,aq 31 .quo 30 4,aq 32 .mul 31 2,aJ 33 .add 29 32,aq 34 .add 33 1,aJ 35 .leq 28 34] (az 35 skip (exit 0))).seq ((block 1 (ac [aL 38 134 [t 9],aa 39 10,cO 40 (cB .sub (t 39) (c (AV.int IntKind.u64 (1)))),aJ 41 .and 38 40,cO 42 (conv IntKind.i64 (t 41)),aa 12 42] ((ac [aa 43 12,aa 44 8,aJ 45 .geq 43 44] (az 45 (ops 0 [aa 46 12,aa 47 8,aJ 48 .sub 46 47,aa 12 48]) skip)).seq (ops 1 [aa 49 0,aa 50 11,aa 51 0,aa 52 1,aa 53 12,aJ 54 .add 52 53,aa 55 0,aa 56 1,aa 57 12,aJ 58 .add 56 57,cO 59 (ixaS 1 (t 55) (t 58)),aN 60 59,aa 61 0,aa 62 11,cO 63 (ixaS 1 (t 61) (t 62)),aN 64 63,cO 65 (ixaS 1 (t 49) (t 50)),aV 1 65 60,cO 66 (ixaS 1 (t 51) (t 54)),aV 1 66 64])))).seq (ops 0 [aa 36 11,aq 37 .add 36 1,aa 11 37]))).loop)))) skip))))
theorem DX:Is Tryz.prog 124 Fl:=mkI Tryz.func124
def Fj:F2:=(F2.mk 63 [RV.t 8,RV.t 9] (ac [cO 8 (mov (cN 0)),cO 9 (mov (cN 0))] (ac [aa 15 2,aa 16 1,aJ 17 .sub 15 16,aa 10 17] (ac [cO 11 (alloc (aX))] (ac [aa 18 1,aa 19 10,aq 20 .quo 19 4,aq 21 .mul 20 1,aJ 22 .add 18 21,aa 12 22] (ac [aa 23 1,aa 24 10,aq 25 .quo 24 4,aq 26 .mul 25 2,aJ 27 .add 23 26,aa 13 27] (ac [aa 28 1,aa 29 10,aq 30 .quo 29 4,aq 31 .mul 30 3,aJ 32 .add 28 31,aa 14 32] ((ac [aa 33 10,aq 34 .geq 33 8] (az 34 ((ac [aa 35 10,aq 36 .geq 35 50] (az 36 (ac [aa 37 0,aa 38 12,aa 39 3,aL 40 138 [t 37,t 38,t 11,t 39],aa 12 40] (ac [aa 41 0,aa 42 13,aa 43 3,aL 44 138 [t 41,t 42,t 11,t 43],aa 13 44] (ops 0 [aa 45 0,aa 46 14,aa 47 3,aL 48 138 [t 45,t 46,t 11,t 47],aa 14 48]))) skip)).seq (ops 0 [aa 49 0,aa 50 12,aa 51 13,aa 52 14,aa 53 3,aL 54 139 [t 49,t 50,t 51,t 52,t 11,t 53],aa 13 54])) skip)).seq (ac [aN 55 11] (block 0 (ac [aq 58 .eql 55 0,aa 57 58] (az 57 (ac [aa 59 13,aa 8 59,cO 9 (mov (cN 1))] ret) (ac [aq 61 .eql 55 12,aa 60 61] (az 60 (ac [aa 62 13,aa 8 62,cO 9 (mov (cN 2))] ret) (ac [aa 56 13,aa 8 56,cO 9 (mov (cN 0))] ret)))))))))))))))
theorem DZ:Is Tryz.prog 125 Fj:=mkI Tryz.func125
def ER:F2:=(F2.mk 34 [] (ac [aa 10 1,aa 8 10] (ac [aa 11 2,aq 12 .sub 11 1,aa 9 12] (block 0 ((ac [aa 13 8,aa 14 9,aJ 15 .lss 13 14] (az 15 skip (exit 0))).seq (block 1 ((ops 1 [aa 16 0,aa 17 8,aa 18 0,aa 19 9,aa 20 0,aa 21 9,cO 22 (ixaS 1 (t 20) (t 21)),aN 23 22,aa 24 0,aa 25 8,cO 26 (ixaS 1 (t 24) (t 25)),aN 27 26,cO 28 (ixaS 1 (t 16) (t 17)),aV 1 28 23,cO 29 (ixaS 1 (t 18) (t 19)),aV 1 29 27]).seq (ac [aa 30 8,aq 31 .add 30 1,aa 8 31] (ops 0 [aa 32 9,aq 33 .sub 32 1,aa 9 33]))))).loop))))
theorem DL:Is Tryz.prog 126 ER:=mkI Tryz.func126
def FK:F2:=(F2.mk 141 [RV.t 8] (ac [cO 8 (mov a9)] (ac [aa 13 1,aq 14 .add 13 1,aa 9 14] ((ac [cO 10 (mov (cN 0))] (block 0 ((ac [aa 15 10,aq 16 .lss 15 5] (az 16 skip (exit 0))).seq ((block 1 ((block 2 (((mixS 1 [aa 19 9,aa 20 2,aJ 21 .lss 19 20,aa 22 21,al 23 22 (cM 3),al 24 22 (cM 0),al 25 22 (cM 9),al 26 22 (ixaS 1 (t 24) (t 25)),al 27 22 (cD 26),al 28 22 (cM 0),al 29 22 (cM 9),al 30 22 (cB .sub (t 29) (cN 1)),al 31 22 (ixaS 1 (t 28) (t 30)),al 32 22 (cD 31),al 33 22 (call (t 23) [t 27,t 32]),al 34 22 (cB .lss (t 33) (cN 0)),al 35 22 (un UnOp.not (t 34)),cO 36 (pick (t 22) (t 35) a9)] [(0,0),(1,0),(2,0),(3,0),(4,0),(5,0),(6,0),(7,0),(8,0),(9,0),(10,0),(11,0),(12,0),(13,0),(14,2),(15,0),(16,0),(17,0)]).seq (az 36 skip (exit 2))).seq (block 3 (ops 0 [aa 37 9,aq 38 .add 37 1,aa 9 38]))).loop).seq ((ac [aa 39 9,aa 40 2,aJ 41 .eql 39 40] (az 41 (ac [cO 8 (mov dQ)] ret) skip)).seq ((ac [aa 42 2,aa 43 1,aJ 44 .sub 42 43,aq 45 .lss 44 50] (az 45 (ac [cO 8 (mov a9)] ret) skip)).seq ((ops 1 [aa 46 0,aa 47 9,aa 48 0,aa 49 9,aq 50 .sub 49 1,aa 51 0,aa 52 9,aq 53 .sub 52 1,cO 54 (ixaS 1 (t 51) (t 53)),aN 55 54,aa 56 0,aa 57 9,cO 58 (ixaS 1 (t 56) (t 57)),aN 59 58,cO 60 (ixaS 1 (t 46) (t 47)),aV 1 60 55,cO 61 (ixaS 1 (t 48) (t 50)),aV 1 61 59]).seq ((ac [aa 62 9,aa 63 1,aJ 64 .sub 62 63,aq 65 .geq 64 2] (az 65 (ac [aa 66 9,aq 67 .sub 66 1,aa 11 67] (block 4 ((ac [aa 68 11,aq 69 .geq 68 1] (az 69 skip (exit 4))).seq ((block 5 (((mixS 1 [aa 72 3,aa 73 0,aa 74 11,cO 75 (ixaS 1 (t 73) (t 74)),aN 76 75,aa 77 0,aa 78 11,aq 79 .sub 78 1,cO 80 (ixaS 1 (t 77) (t 79)),aN 81 80,cO 82 (call (t 72) [t 76,t 81]),aq 83 .lss 82 0,cO 84 (un UnOp.not (t 83))] [(0,0),(1,0),(2,0),(3,0),(4,0),(5,0),(6,0),(7,0),(8,0),(9,0),(10,2),(11,0),(12,0)]).seq (az 84 (exit 4) skip)).seq (ops 1 [aa 85 0,aa 86 11,aa 87 0,aa 88 11,aq 89 .sub 88 1,aa 90 0,aa 91 11,aq 92 .sub 91 1,cO 93 (ixaS 1 (t 90) (t 92)),aN 94 93,aa 95 0,aa 96 11,cO 97 (ixaS 1 (t 95) (t 96)),aN 98 97,cO 99 (ixaS 1 (t 85) (t 86)),aV 1 99 94,cO 100 (ixaS 1 (t 87) (t 89)),aV 1 100 98]))).seq (ops 0 [aa 70 11,aq 71 .sub 70 1,aa 11 71]))).loop)) skip)).seq (ac [aa 101 2,aa 102 9,aJ 103 .sub 101 102,aq 104 .geq 103 2] (az 104 (ac [aa 105 9,aq 106 .add 105 1,aa 12 106] (block 6 ((ac [aa 107 12,aa 108 2,aJ 109 .lss 107 108] (az 109 skip (exit 6))).seq ((block 7 (((mixS 1 [aa 112 3,aa 113 0,aa 114 12,cO 115 (ixaS 1 (t 113) (t 114)),aN 116 115,aa 117 0,aa 118 12,aq 119 .sub 118 1,cO 120 (ixaS 1 (t 117) (t 119)),aN 121 120,cO 122 (call (t 112) [t 116,t 121]),aq 123 .lss 122 0,cO 124 (un UnOp.not (t 123))] [(0,0),(1,0),(2,0),(3,0),(4,0),(5,0),(6,0),(7,0),(8,0),(9,0),(10,2),(11,0),(12,0)]).seq (az 124 (exit 6) skip)).seq (ops 1 [aa 125 0,aa 126 12,aa 127 0,aa 128 12,aq 129 .sub 128 1,aa 130 0,aa 131 12,aq 132 .sub 131 1,cO 133 (ixaS 1 (t 130) (t 132)),aN 134 133,aa 135 0,aa 136 12,cO 137 (ixaS 1 (t 135) (t 136)),aN 138 137,cO 139 (ixaS 1 (t 125) (t 126)),aV 1 139 134,cO 140 (ixaS 1 (t 127) (t 129)),aV 1 140 138]))).seq (ops 0 [aa 110 12,aq 111 .add 110 1,aa 12 111]))).loop)) skip)))))))).seq (ops 0 [aa 17 10,aq 18 .add 17 1,aa 10 18]))).loop)).seq (ac [cO 8 (mov a9)] ret)))))
theorem DR:Is Tryz.prog 127 FK:=mkI Tryz.func127
def FY:F2:=(F2.mk 90 [RV.t 10] (ac [cO 10 (mov (cN 0))] ((ops 1 [aa 13 0,aa 14 1,aa 15 0,aa 16 3,aa 17 0,aa 18 3,cO 19 (ixaS 1 (t 17) (t 18)),aN 20 19,aa 21 0,aa 22 1,cO 23 (ixaS 1 (t 21) (t 22)),aN 24 23,cO 25 (ixaS 1 (t 13) (t 14)),aV 1 25 20,cO 26 (ixaS 1 (t 15) (t 16)),aV 1 26 24]).seq (ac [aa 27 1,aq 28 .add 27 1,aa 29 2,aq 30 .sub 29 1,aa 11 28,aa 12 30] ((block 0 (block 1 ((block 2 (((mixS 1 [aa 31 11,aa 32 12,aJ 33 .leq 31 32,aa 34 33,al 35 34 (cM 4),al 36 34 (cM 0),al 37 34 (cM 1),al 38 34 (ixaS 1 (t 36) (t 37)),al 39 34 (cD 38),al 40 34 (cM 0),al 41 34 (cM 11),al 42 34 (ixaS 1 (t 40) (t 41)),al 43 34 (cD 42),al 44 34 (call (t 35) [t 39,t 43]),al 45 34 (cB .lss (t 44) (cN 0)),al 46 34 (un UnOp.not (t 45)),cO 47 (pick (t 34) (t 46) a9)] [(0,0),(1,0),(2,0),(3,0),(4,0),(5,0),(6,0),(7,0),(8,0),(9,0),(10,0),(11,0),(12,0),(13,2),(14,0),(15,0),(16,0)]).seq (az 47 skip (exit 2))).seq (block 3 (ops 0 [aa 48 11,aq 49 .add 48 1,aa 11 49]))).loop).seq ((block 4 (((mixS 1 [aa 50 11,aa 51 12,aJ 52 .leq 50 51,aa 53 52,al 54 53 (cM 4),al 55 53 (cM 0),al 56 53 (cM 1),al 57 53 (ixaS 1 (t 55) (t 56)),al 58 53 (cD 57),al 59 53 (cM 0),al 60 53 (cM 12),al 61 53 (ixaS 1 (t 59) (t 60)),al 62 53 (cD 61),al 63 53 (call (t 54) [t 58,t 62]),al 64 53 (cB .lss (t 63) (cN 0)),cO 65 (pick (t 53) (t 64) a9)] [(0,0),(1,0),(2,0),(3,0),(4,0),(5,0),(6,0),(7,0),(8,0),(9,0),(10,0),(11,0),(12,0),(13,2),(14,0),(15,0)]).seq (az 65 skip (exit 4))).seq (block 5 (ops 0 [aa 66 12,aq 67 .sub 66 1,aa 12 67]))).loop).seq ((ac [aa 68 11,aa 69 12,aJ 70 .gtr 68 69] (az 70 (exit 0) skip)).seq ((ops 1 [aa 71 0,aa 72 11,aa 73 0,aa 74 12,aa 75 0,aa 76 12,cO 77 (ixaS 1 (t 75) (t 76)),aN 78 77,aa 79 0,aa 80 11,cO 81 (ixaS 1 (t 79) (t 80)),aN 82 81,cO 83 (ixaS 1 (t 71) (t 72)),aV 1 83 78,cO 84 (ixaS 1 (t 73) (t 74)),aV 1 84 82]).seq (ac [aa 85 11,aq 86 .add 85 1,aa 11 86] (ops 0 [aa 87 12,aq 88 .sub 87 1,aa 12 88]))))))).loop).seq (ac [aa 89 11,aa 10 89] ret))))))
theorem D1:Is Tryz.prog 128 FY:=mkI Tryz.func128
def Fx:F2:=(F2.mk 178 [RV.t 10,RV.t 11] (ac [cO 10 (mov (cN 0)),cO 11 (mov a9)] ((ops 1 [aa 14 0,aa 15 1,aa 16 0,aa 17 3,aa 18 0,aa 19 3,cO 20 (ixaS 1 (t 18) (t 19)),aN 21 20,aa 22 0,aa 23 1,cO 24 (ixaS 1 (t 22) (t 23)),aN 25 24,cO 26 (ixaS 1 (t 14) (t 15)),aV 1 26 21,cO 27 (ixaS 1 (t 16) (t 17)),aV 1 27 25]).seq (ac [aa 28 1,aq 29 .add 28 1,aa 30 2,aq 31 .sub 30 1,aa 12 29,aa 13 31] ((block 0 (((mixS 1 [aa 32 12,aa 33 13,aJ 34 .leq 32 33,aa 35 34,al 36 35 (cM 4),al 37 35 (cM 0),al 38 35 (cM 12),al 39 35 (ixaS 1 (t 37) (t 38)),al 40 35 (cD 39),al 41 35 (cM 0),al 42 35 (cM 1),al 43 35 (ixaS 1 (t 41) (t 42)),al 44 35 (cD 43),al 45 35 (call (t 36) [t 40,t 44]),al 46 35 (cB .lss (t 45) (cN 0)),cO 47 (pick (t 35) (t 46) a9)] [(0,0),(1,0),(2,0),(3,0),(4,0),(5,0),(6,0),(7,0),(8,0),(9,0),(10,0),(11,0),(12,0),(13,2),(14,0),(15,0)]).seq (az 47 skip (exit 0))).seq (block 1 (ops 0 [aa 48 12,aq 49 .add 48 1,aa 12 49]))).loop).seq ((block 2 (((mixS 1 [aa 50 12,aa 51 13,aJ 52 .leq 50 51,aa 53 52,al 54 53 (cM 4),al 55 53 (cM 0),al 56 53 (cM 13),al 57 53 (ixaS 1 (t 55) (t 56)),al 58 53 (cD 57),al 59 53 (cM 0),al 60 53 (cM 1),al 61 53 (ixaS 1 (t 59) (t 60)),al 62 53 (cD 61),al 63 53 (call (t 54) [t 58,t 62]),al 64 53 (cB .lss (t 63) (cN 0)),al 65 53 (un UnOp.not (t 64)),cO 66 (pick (t 53) (t 65) a9)] [(0,0),(1,0),(2,0),(3,0),(4,0),(5,0),(6,0),(7,0),(8,0),(9,0),(10,0),(11,0),(12,0),(13,2),(14,0),(15,0),(16,0)]).seq (az 66 skip (exit 2))).seq (block 3 (ops 0 [aa 67 13,aq 68 .sub 67 1,aa 13 68]))).loop).seq ((ac [aa 69 12,aa 70 13,aJ 71 .gtr 69 70] (az 71 ((ops 1 [aa 72 0,aa 73 13,aa 74 0,aa 75 1,aa 76 0,aa 77 1,cO 78 (ixaS 1 (t 76) (t 77)),aN 79 78,aa 80 0,aa 81 13,cO 82 (ixaS 1 (t 80) (t 81)),aN 83 82,cO 84 (ixaS 1 (t 72) (t 73)),aV 1 84 79,cO 85 (ixaS 1 (t 74) (t 75)),aV 1 85 83]).seq (ac [aa 86 13,aa 10 86,cO 11 (mov dQ)] ret)) skip)).seq ((ops 1 [aa 87 0,aa 88 12,aa 89 0,aa 90 13,aa 91 0,aa 92 13,cO 93 (ixaS 1 (t 91) (t 92)),aN 94 93,aa 95 0,aa 96 12,cO 97 (ixaS 1 (t 95) (t 96)),aN 98 97,cO 99 (ixaS 1 (t 87) (t 88)),aV 1 99 94,cO 100 (ixaS 1 (t 89) (t 90)),aV 1 100 98]).seq (ac [aa 101 12,aq 102 .add 101 1,aa 12 102] (ac [aa 103 13,aq 104 .sub 103 1,aa 13 104] ((block 4 (block 5 ((block 6 (((mixS 1 [aa 105 12,aa 106 13,aJ 107 .leq 105 106,aa 108 107,al 109 108 (cM 4),al 110 108 (cM 0),al 111 108 (cM 12),al 112 108 (ixaS 1 (t 110) (t 111)),al 113 108 (cD 112),al 114 108 (cM 0),al 115 108 (cM 1),al 116 108 (ixaS 1 (t 114) (t 115)),al 117 108 (cD 116),al 118 108 (call (t 109) [t 113,t 117]),al 119 108 (cB .lss (t 118) (cN 0)),cO 120 (pick (t 108) (t 119) a9)] [(0,0),(1,0),(2,0),(3,0),(4,0),(5,0),(6,0),(7,0),(8,0),(9,0),(10,0),(11,0),(12,0),(13,2),(14,0),(15,0)]).seq (az 120 skip (exit 6))).seq (block 7 (ops 0 [aa 121 12,aq 122 .add 121 1,aa 12 122]))).loop).seq ((block 8 (((mixS 1 [aa 123 12,aa 124 13,aJ 125 .leq 123 124,aa 126 125,al 127 126 (cM 4),al 128 126 (cM 0),al 129 126 (cM 13),al 130 126 (ixaS 1 (t 128) (t 129)),al 131 126 (cD 130),al 132 126 (cM 0),al 133 126 (cM 1),al 134 126 (ixaS 1 (t 132) (t 133)),al 135 126 (cD 134),al 136 126 (call (t 127) [t 131,t 135]),al 137 126 (cB .lss (t 136) (cN 0)),al 138 126 (un UnOp.not (t 137)),cO 139 (pick (t 126) (t 138) a9)] [(0,0),(1,0),(2,0),(3,0),(4,0),(5,0),(6,0),(7,0),(8,0),(9,0),(10,0),(11,0),(12,0),(13,2),(14,0),(15,0),(16,0)]).seq (az 139 skip (exit 8))).seq (block 9 (ops 0 [aa 140 13,aq 141 .sub 140 1,aa 13 141]))).loop).seq ((ac [aa 142 12,aa 143 13,aJ 144 .gtr 142 143] (az 144 (exit 4) skip)).seq ((ops 1 [aa 145 0,aa 146 12,aa 147 0,aa 148 13,aa 149 0,aa 150 13,cO 151 (ixaS 1 (t 149) (t 150)),aN 152 151,aa 153 0,aa 154 12,cO 155 (ixaS 1 (t 153) (t 154)),aN 156 155,cO 157 (ixaS 1 (t 145) (t 146)),aV 1 157 152,cO 158 (ixaS 1 (t 147) (t 148)),aV 1 158 156]).seq (ac [aa 159 12,aq 160 .add 159 1,aa 12 160] (ops 0 [aa 161 13,aq 162 .sub 161 1,aa 13 162]))))))).loop).seq ((ops 1 [aa 163 0,aa 164 13,aa 165 0,aa 166 1,aa 167 0,aa 168 1,cO 169 (ixaS 1 (t 167) (t 168)),aN 170 169,aa 171 0,aa 172 13,cO 173 (ixaS 1 (t 171) (t 172)),aN 174 173,cO 175 (ixaS 1 (t 163) (t 164)),aV 1 175 170,cO 176 (ixaS 1 (t 165) (t 166)),aV 1 176 174]).seq (ac [aa 177 13,aa 10 177,cO 11 (mov a9)] ret)))))))))))))
theorem DT:Is Tryz.prog 129 Fx:=mkI Tryz.func129
def GH:F2:=(F2.mk 5 [RV.t 2] (ac [cO 2 (mov (c AV.esl))] (ac [aa 3 0,aL 4 140 [c AV.esl,t 3],aa 2 4] ret)))
theorem Hd:Is Tryz.prog 130 GH:=mkI Tryz.func130
def GY:F2:=(F2.mk 6 [RV.t 4] (ac [cO 2 (box (t 0)),cO 3 (box (t 1)),cO 4 (mov (c AV.nilf))] (ac [cO 5 (mkfn 141 [t 3,t 2]),aa 4 5] ret)))
theorem Hj:Is Tryz.prog 131 GY:=mkI Tryz.func131
def FR:F2:=(F2.mk 82 [] (ac [aa 12 1,aa 10 12] (block 0 (block 1 (ac [aa 13 10,cO 14 (cB .mul (cN 2) (t 13)),aq 15 .add 14 1,aa 11 15] ((ac [aa 16 11,aa 17 2,aJ 18 .geq 16 17] (az 18 (exit 0) skip)).seq (((mixS 1 [aa 19 11,aq 20 .add 19 1,aa 21 2,aJ 22 .lss 20 21,aa 23 22,al 24 23 (cM 4),al 25 23 (cM 0),al 26 23 (cM 3),al 27 23 (cM 11),al 28 23 (cB .add (t 26) (t 27)),al 29 23 (ixaS 2 (t 25) (t 28)),al 30 23 (ldn 2 (t 29)),al 31 23 (cM 0),al 32 23 (cM 3),al 33 23 (cM 11),al 34 23 (cB .add (t 32) (t 33)),al 35 23 (cB .add (t 34) (cN 1)),al 36 23 (ixaS 2 (t 31) (t 35)),al 37 23 (ldn 2 (t 36)),al 38 23 (call (t 24) [t 30,t 37]),al 39 23 (cB .lss (t 38) (cN 0)),cO 40 (pick (t 23) (t 39) a9)] [(0,0),(1,0),(2,0),(3,0),(4,0),(5,0),(6,0),(7,0),(8,0),(9,0),(10,0),(11,0),(12,0),(13,0),(14,0),(15,0),(16,0),(17,0),(18,0),(19,2),(20,0),(21,0)]).seq (az 40 (ops 0 [aa 41 11,aq 42 .add 41 1,aa 11 42]) skip)).seq (((mixS 1 [aa 43 4,aa 44 0,aa 45 3,aa 46 10,aJ 47 .add 45 46,cO 48 (ixaS 2 (t 44) (t 47)),aM 49 2 48,aa 50 0,aa 51 3,aa 52 11,aJ 53 .add 51 52,cO 54 (ixaS 2 (t 50) (t 53)),aM 55 2 54,cO 56 (call (t 43) [t 49,t 55]),aq 57 .lss 56 0,cO 58 (un UnOp.not (t 57))] [(0,0),(1,0),(2,0),(3,0),(4,0),(5,0),(6,0),(7,0),(8,0),(9,0),(10,0),(11,0),(12,0),(13,2),(14,0),(15,0)]).seq (az 58 ret skip)).seq ((ops 1 [aa 59 0,aa 60 3,aa 61 10,aJ 62 .add 60 61,aa 63 0,aa 64 3,aa 65 11,aJ 66 .add 64 65,aa 67 0,aa 68 3,aa 69 11,aJ 70 .add 68 69,cO 71 (ixaS 2 (t 67) (t 70)),aM 72 2 71,aa 73 0,aa 74 3,aa 75 10,aJ 76 .add 74 75,cO 77 (ixaS 2 (t 73) (t 76)),aM 78 2 77,cO 79 (ixaS 2 (t 59) (t 62)),aV 2 79 72,cO 80 (ixaS 2 (t 63) (t 66)),aV 2 80 78]).seq (ops 0 [aa 81 11,aa 10 81]))))))).loop)))
theorem Ek:Is Tryz.prog 132 FR:=mkI Tryz.func132
def FN:F2:=(F2.mk 7 [RV.t 2] (ac [cO 2 (mov (c (AV.int IntKind.u64 (0))))] (ac [aa 3 0,cO 4 (conv IntKind.u64 (t 3)),aL 5 104 [t 4],cO 6 (cB .shl (c (AV.int IntKind.u64 (1))) (t 5)),aa 2 6] ret)))
theorem Eb:Is Tryz.prog 133 FN:=mkI Tryz.func133
def Fe:F2:=(F2.mk 33 [RV.t 2] (ac [cO 2 (mov (c (AV.int IntKind.u64 (0))))] ((ops 1 [aa 3 0,cO 4 (nilck (t 3)),aN 5 4,aa 6 0,cO 7 (nilck (t 6)),aN 8 7,cO 9 (cB .shl (t 8) (c (AV.int IntKind.u64 (13)))),aJ 10 .xor 5 9,cO 11 (nilck (t 3)),aV 1 11 10]).seq ((ops 1 [aa 12 0,cO 13 (nilck (t 12)),aN 14 13,aa 15 0,cO 16 (nilck (t 15)),aN 17 16,cO 18 (cB .shr (t 17) (c (AV.int IntKind.u64 (7)))),aJ 19 .xor 14 18,cO 20 (nilck (t 12)),aV 1 20 19]).seq ((ops 1 [aa 21 0,cO 22 (nilck (t 21)),aN 23 22,aa 24 0,cO 25 (nilck (t 24)),aN 26 25,cO 27 (cB .shl (t 26) (c (AV.int IntKind.u64 (17)))),aJ 28 .xor 23 27,cO 29 (nilck (t 21)),aV 1 29 28]).seq (ac [aa 30 0,cO 31 (nilck (t 30)),aN 32 31,aa 2 32] ret))))))
theorem Et:Is Tryz.prog 134 Fe:=mkI Tryz.func134
def Fb:F2:=(F2.mk 18 [RV.t 8] (ac [cO 8 (mov (cN 0))] (ac [aa 9 0,aa 10 1,aq 11 .sub 10 1,aa 12 1,aa 13 1,aq 14 .add 13 1,aa 15 2,aa 16 3,aL 17 136 [t 9,t 11,t 12,t 14,t 15,t 16],aa 8 17] ret)))
theorem Ev:Is Tryz.prog 135 Fb:=mkI Tryz.func135
def FI:F2:=(F2.mk 41 [RV.t 12] (ac [cO 12 (mov (cN 0))] (ac [aa 14 0,aa 15 1,aa 16 2,aa 17 4,aa 18 5,aL 19 143 [t 14,t 15,t 16,t 17,t 18],aa 13 19,bd 20 13 0,bd 21 13 1,aa 1 20,aa 2 21] (ac [aa 23 0,aa 24 2,aa 25 3,aa 26 4,aa 27 5,aL 28 143 [t 23,t 24,t 25,t 26,t 27],aa 22 28,bd 29 22 0,bd 30 22 1,aa 2 29,aa 3 30] (ac [aa 32 0,aa 33 1,aa 34 2,aa 35 4,aa 36 5,aL 37 143 [t 32,t 33,t 34,t 35,t 36],aa 31 37,bd 38 31 0,bd 39 31 1,aa 1 38,aa 2 39] (ac [aa 40 2,aa 12 40] ret))))))
theorem Ej:Is Tryz.prog 136 FI:=mkI Tryz.func136
def EN:F2:=(F2.mk 82 [] (ac [aa 12 1,aa 10 12] (block 0 (block 1 (ac [aa 13 10,cO 14 (cB .mul (cN 2) (t 13)),aq 15 .add 14 1,aa 11 15] ((ac [aa 16 11,aa 17 2,aJ 18 .geq 16 17] (az 18 (exit 0) skip)).seq (((mixS 1 [aa 19 11,aq 20 .add 19 1,aa 21 2,aJ 22 .lss 20 21,aa 23 22,al 24 23 (cM 4),al 25 23 (cM 0),al 26 23 (cM 3),al 27 23 (cM 11),al 28 23 (cB .add (t 26) (t 27)),al 29 23 (ixaS 1 (t 25) (t 28)),al 30 23 (cD 29),al 31 23 (cM 0),al 32 23 (cM 3),al 33 23 (cM 11),al 34 23 (cB .add (t 32) (t 33)),al 35 23 (cB .add (t 34) (cN 1)),al 36 23 (ixaS 1 (t 31) (t 35)),al 37 23 (cD 36),al 38 23 (call (t 24) [t 30,t 37]),al 39 23 (cB .lss (t 38) (cN 0)),cO 40 (pick (t 23) (t 39) a9)] [(0,0),(1,0),(2,0),(3,0),(4,0),(5,0),(6,0),(7,0),(8,0),(9,0),(10,0),(11,0),(12,0),(13,0),(14,0),(15,0),(16,0),(17,0),(18,0),(19,2),(20,0),(21,0)]).seq (az 40 (ops 0 [aa 41 11,aq 42 .add 41 1,aa 11 42]) skip)).seq (((mixS 1 [aa 43 4,aa 44 0,aa 45 3,aa 46 10,aJ 47 .add 45 46,cO 48 (ixaS 1 (t 44) (t 47)),aN 49 48,aa 50 0,aa 51 3,aa 52 11,aJ 53 .add 51 52,cO 54 (ixaS 1 (t 50) (t 53)),aN 55 54,cO 56 (call (t 43) [t 49,t 55]),aq 57 .lss 56 0,cO 58 (un UnOp.not (t 57))] [(0,0),(1,0),(2,0),(3,0),(4,0),(5,0),(6,0),(7,0),(8,0),(9,0),(10,0),(11,0),(12,0),(13,2),(14,0),(15,0)]).seq (az 58 ret skip)).seq ((ops 1 [aa 59 0,aa 60 3,aa 61 10,aJ 62 .add 60 61,aa 63 0,aa 64 3,aa 65 11,aJ 66 .add 64 65,aa 67 0,aa 68 3,aa 69 11,aJ 70 .add 68 69,cO 71 (ixaS 1 (t 67) (t 70)),aN 72 71,aa 73 0,aa 74 3,aa 75 10,aJ 76 .add 74 75,cO 77 (ixaS 1 (t 73) (t 76)),aN 78 77,cO 79 (ixaS 1 (t 59) (t 62)),aV 1 79 72,cO 80 (ixaS 1 (t 63) (t 66)),aV 1 80 78]).seq (ops 0 [aa 81 11,aa 10 81]))))))).loop)))
theorem D5:Is Tryz.prog 137 EN:=mkI Tryz.func137
def Fs:F2:=(F2.mk 18 [RV.t 8] (ac [cO 8 (mov (cN 0))] (ac [aa 9 0,aa 10 1,aq 11 .sub 10 1,aa 12 1,aa 13 1,aq 14 .add 13 1,aa 15 2,aa 16 3,aL 17 139 [t 9,t 11,t 12,t 14,t 15,t 16],aa 8 17] ret)))
theorem D3:Is Tryz.prog 138 Fs:=mkI Tryz.func138
def FB:F2:=(F2.mk 41 [RV.t 12] (ac [cO 12 (mov (cN 0))] (ac [aa 14 0,aa 15 1,aa 16 2,aa 17 4,aa 18 5,aL 19 144 [t 14,t 15,t 16,t 17,t 18],aa 13 19,bd 20 13 0,bd 21 13 1,aa 1 20,aa 2 21] (ac [aa 23 0,aa 24 2,aa 25 3,aa 26 4,aa 27 5,aL 28 144 [t 23,t 24,t 25,t 26,t 27],aa 22 28,bd 29 22 0,bd 30 22 1,aa 2 29,aa 3 30] (ac [aa 32 0,aa 33 1,aa 34 2,aa 35 4,aa 36 5,aL 37 144 [t 32,t 33,t 34,t 35,t 36],aa 31 37,bd 38 31 0,bd 39 31 1,aa 1 38,aa 2 39] (ac [aa 40 2,aa 12 40] ret))))))
theorem DY:Is Tryz.prog 139 FB:=mkI Tryz.func139
def GL:F2:=(F2.mk 13 [RV.t 4] (ac [cO 2 (box (t 0)),cO 4 (mov (c AV.esl))] ((ac [aa 6 1] (block 0 (rangeF (t 6) [7] (ops 0 [aa 5 7]) (block 1 (ops 0 [aN 8 2,aa 9 5,cO 10 (bldS 1 1 [AV.esl] [(0,1,t 9)]),cO 11 (app 1 24 (t 8) (t 10)),aV 1 2 11]))))).seq (ac [aN 12 2,aa 4 12] ret))))
theorem G1:Is Tryz.prog 140 GL:=mkI Tryz.func140
def Ht:F2:=(F2.mk 10 [] (ac [cO 3 (box (t 0))] (ac [cO 4 (alloc AV.nilf)] (ac [cO 5 (mkfn 142 [t 1,t 3,t 2,t 4]),aV 1 4 5] (mixS 1 [aN 6 4,aN 7 1,cO 8 (mks 2 16 [aX,aX] (cN 0) (t 7)),cO 9 (call (t 6) [cN ((0)),t 8])] [(0,0),(1,0),(2,1),(3,2)])))))
theorem GM:Is Tryz.prog 141 Ht:=mkI Tryz.func141
def EX:F2:=(F2.mk 37 [RV.t 8] (ac [cO 8 (mov a9)] ((ac [aa 10 1,bn 11 10,aN 12 2,aJ 13 .eql 11 12] (az 13 ((mixS 1 [aN 14 3,aa 15 1,aL 16 45 [t 15],cO 17 (call (t 14) [t 16]),aa 8 17] [(0,0),(1,0),(2,1),(3,2),(4,0)]).seq ret) skip)).seq ((ac [aa 18 0,aa 9 18] (block 0 ((ac [aa 19 9,aN 20 4,bn 21 20,aJ 22 .lss 19 21] (az 22 skip (exit 0))).seq ((block 1 ((mixS 2 [aN 25 5,aa 26 9,aq 27 .add 26 1,aa 28 1,aN 29 4,aa 30 9,cO 31 (ixaS 2 (t 29) (t 30)),aM 32 2 31,cO 33 (bldS 2 1 [aX,aX] [(0,2,t 32)]),cO 34 (app 2 16 (t 28) (t 33)),cO 35 (call (t 25) [t 27,t 34]),cO 36 (un UnOp.not (t 35))] [(0,0),(1,0),(2,0),(3,0),(4,0),(5,0),(6,0),(7,0),(8,1),(9,1),(10,2),(11,0)]).seq (az 36 (ac [cO 8 (mov a9)] ret) skip))).seq (ops 0 [aa 23 9,aq 24 .add 23 1,aa 9 24]))).loop)).seq (ac [cO 8 (mov dQ)] ret)))))
theorem DU:Is Tryz.prog 142 EX:=mkI Tryz.func142
def EL:F2:=(F2.mk 32 [RV.t 10,RV.t 11] (ac [cO 10 (mov (cN 0)),cO 11 (mov (cN 0))] (((mixS 1 [aa 12 4,aa 13 0,aa 14 2,cO 15 (ixaS 2 (t 13) (t 14)),aM 16 2 15,aa 17 0,aa 18 1,cO 19 (ixaS 2 (t 17) (t 18)),aM 20 2 19,cO 21 (call (t 12) [t 16,t 20]),aq 22 .lss 21 0] [(0,0),(1,0),(2,0),(3,0),(4,0),(5,0),(6,0),(7,0),(8,0),(9,2),(10,0)]).seq (az 22 (ac [aa 23 3,cO 24 (nilck (t 23)),aN 25 24,aq 26 .add 25 1,cO 27 (nilck (t 23)),aV 1 27 26] (ac [aa 28 2,aa 29 1,aa 10 28,aa 11 29] ret)) skip)).seq (ac [aa 30 1,aa 31 2,aa 10 30,aa 11 31] ret))))
theorem Eo:Is Tryz.prog 143 EL:=mkI Tryz.func143
def FD:F2:=(F2.mk 32 [RV.t 10,RV.t 11] (ac [cO 10 (mov (cN 0)),cO 11 (mov (cN 0))] (((mixS 1 [aa 12 4,aa 13 0,aa 14 2,cO 15 (ixaS 1 (t 13) (t 14)),aN 16 15,aa 17 0,aa 18 1,cO 19 (ixaS 1 (t 17) (t 18)),aN 20 19,cO 21 (call (t 12) [t 16,t 20]),aq 22 .lss 21 0] [(0,0),(1,0),(2,0),(3,0),(4,0),(5,0),(6,0),(7,0),(8,0),(9,2),(10,0)]).seq (az 22 (ac [aa 23 3,cO 24 (nilck (t 23)),aN 25 24,aq 26 .add 25 1,cO 27 (nilck (t 23)),aV 1 27 26] (ac [aa 28 2,aa 29 1,aa 10 28,aa 11 29] ret)) skip)).seq (ac [aa 30 1,aa 31 2,aa 10 30,aa 11 31] ret))))
theorem DP:Is Tryz.prog 144 FD:=mkI Tryz.func144
end Go.Proofs.YtpfkjcjgdilkkaaGreat
namespace Go.Proofs.YtpfkjcjgdilkkaaGreat
open Go Go.Abs
def swp {α:Type} [Inhabited α] (L:List α) (i j:Nat):List α:=(L.set i (L.getD j default)).set j (L.getD i default)
structure PermR {α:Type} [Inhabited α] (a b:Nat) (L L':List α):Prop where
 len:L'.length=L.length
 out:∀ i,i < a ∨ b ≤ i→L'.getD i default=L.getD i default
 perm:L'.Perm L
section
variable {α:Type} [Inhabited α] {a b a' b':Nat} {L L' L'':List α}
theorem d8 {l:List α} {i j:Nat} {x:α} (h:i < l.length):(l.set i x).getD j default=if i=j then x else l.getD j default:=by
 simp only [List.getD,List.getElem?_set];split
 ·rename_i e; subst e; simp [h]
 ·rfl
theorem ze (i j:Nat):(swp L i j).length=L.length:=by simp [swp]
theorem dW {i j:Nat} (hi:i < L.length) (hj:j < L.length) (k:Nat):(swp L i j).getD k default=if k=j then L.getD i default else if k=i then L.getD j default else L.getD k default:=by
 unfold swp;rw [d8 (by simpa using hj),d8 hi];by_cases e:k=j
 ·subst e; simp
 ·rw [if_neg (fun h=>e h.symm),if_neg e];by_cases e2:k=i
  ·subst e2; simp
  ·rw [if_neg (fun h=>e2 h.symm),if_neg e2]
theorem BX {i j:Nat} (hi:i < L.length) (hj:j < L.length):(swp L i j).Perm L:=by
 unfold swp;have e1:L.getD i default=L[i]:=by simp [List.getD,hi]
 have e2:L.getD j default=L[j]:=by simp [List.getD,hj]
 rw [e1,e2];exact List.set_set_perm hi hj
theorem PermR.refl:PermR a b L L:=⟨rfl,fun _ _=>rfl,List.Perm.refl _⟩
theorem PermR.trans (h:PermR a b L L') (k:PermR a b L' L''):PermR a b L L'':=⟨k.len.trans h.len,fun i hi=>(k.out i hi).trans (h.out i hi),k.perm.trans h.perm⟩
theorem PermR.mono (h:PermR a' b' L L') (h1:a ≤ a') (h2:b' ≤ b):PermR a b L L':=⟨h.len,fun i hi=>h.out i (by omega),h.perm⟩
theorem PermR.swap {i j:Nat} (h1:a ≤ i∧i < b) (h2:a ≤ j∧j < b) (hb:b ≤ L.length):PermR a b L (swp L i j) :=
 ⟨ze i j,fun k hk=>by rw [dW (by omega) (by omega),if_neg (by omega),if_neg (by omega)],BX (by omega) (by omega)⟩
theorem vQ {l m:List α} (hl:l.length=m.length) (h:∀ i,i < l.length→l.getD i default=m.getD i default):l=m :=
 List.ext_getElem hl (fun i h1 h2=>by
  have:=h i h1;simpa [List.getD,h1,h2] using this)
theorem PermR.mid (h:PermR a b L L') (hab:a ≤ b) (hb:b ≤ L.length):((L'.drop a).take (b - a)).Perm ((L.drop a).take (b - a)):=by
 have e1:∀ M:List α,b ≤ M.length→M=M.take a ++ ((M.drop a).take (b - a) ++ M.drop b):=fun M hM=>by
  have:M.drop b=(M.drop a).drop (b - a):=by rw [List.drop_drop]; congr 1; omega
  rw [this,Aw,Aw]
 have t:L'.take a=L.take a:=vQ (by simp [h.len]) (fun i hi=>by
  have hi':i < a:=by simp at hi; omega
  rw [sV hi',sV hi']; exact h.out i (.inl hi'))
 have d:L'.drop b=L.drop b:=vQ (by simp [h.len]) (fun i hi=>by
  have e:∀ M:List α,(M.drop b).getD i default=M.getD (b + i) default:=fun M=>by simp [List.getD,iX]
  rw [e,e]; exact h.out (b + i) (.inr (by omega)))
 have p:=h.perm;rw [e1 L' (by rw [h.len]; exact hb),e1 L hb,t,d] at p;exact (List.perm_append_right_iff _).1 ((List.perm_append_left_iff _).1 p)
theorem yK {M:List α} {x:α} (hab:a ≤ b) (hb:b ≤ M.length):x ∈ (M.drop a).take (b - a) ↔ ∃ i,a ≤ i∧i < b∧M.getD i default=x:=by
 constructor
 ·intro h;obtain ⟨j,hj,e⟩:=jp h;have hj':j < b - a:=by simp at hj; omega
  refine ⟨a + j,by omega,by omega,?_⟩;rw [← e];simp [List.getD,List.getElem_take,List.getElem_drop,show a + j < M.length by omega]
 ·rintro ⟨i,h1,h2,rfl⟩;rw [List.mem_iff_getElem?];refine ⟨i - a,?_⟩;rw [fX,if_pos (by omega),iX,show a + (i - a)=i by omega];simp [List.getD,show i < M.length by omega]
theorem PermR.all {p:α→Prop} (h:PermR a b L L') (hab:a ≤ b) (hb:b ≤ L.length) (hp:∀ i,a ≤ i→i < b→p (L.getD i default)):∀ i,a ≤ i→i < b→p (L'.getD i default):=by
 intro i h1 h2;have hm:L'.getD i default ∈ (L'.drop a).take (b - a):=(yK hab (by rw [h.len]; exact hb)).2 ⟨i,h1,h2,rfl⟩;obtain ⟨j,k1,k2,e⟩:=(yK hab hb).1 ((h.mid hab hb).mem_iff.1 hm);rw [← e]; exact hp j k1 k2
end
structure Ord {α:Type} (K:α→α→Int):Prop where
 irr:∀ x,¬ K x x < 0
 asym:∀ x y,K x y < 0→¬ K y x < 0
 negtr:∀ x y z,¬ K y x < 0→¬ K z y < 0→¬ K z x < 0
def aY {α:Type} [Inhabited α] (K:α→α→Int) (a b:Nat) (L:List α):Prop:=∀ i j,a ≤ i→i < j→j < b→¬ K (L.getD j default) (L.getD i default) < 0
theorem aY.one {α:Type} [Inhabited α] {K:α→α→Int} {a b:Nat} {L:List α} (h:b ≤ a + 1):aY K a b L:=fun i j h1 h2 h3=>by omega
structure LinK {α:Type} (K:α→α→Int):Prop where
 ord:Ord K
 eq:∀ x y,¬ K x y < 0→¬ K y x < 0→x=y
def cb {α:Type} (K:α→α→Int) (l:List α):Prop:=l.Pairwise fun x y=>K x y < 0
def uq {α:Type} (K:α→α→Int):List α→α→List α
 | [],v=>[v]
 | a :: l,v=>if K v a < 0 then v :: a :: l else a :: uq K l v
section
variable {α:Type} [DecidableEq α] {K:α→α→Int}
def sj (K:α→α→Int) (acc:List α) (v:α):List α:=if v ∈ acc then acc else uq K acc v
def sr (K:α→α→Int) (acc l:List α):List α:=l.foldl (sj K) acc
def fM (K:α→α→Int) (l:List α):List α:=sr K [] l
omit [DecidableEq α] in
theorem cb.nil:cb K ([]:List α):=sH
omit [DecidableEq α] in
theorem cb.nodup {l:List α} (hK:LinK K) (h:cb K l):l.Nodup:=wK (fun {a b} h e=>by subst e; exact hK.ord.irr a h) h
omit [DecidableEq α] in
theorem LinK.tri (hK:LinK K) (x y:α):K x y < 0 ∨ x=y ∨ K y x < 0:=by
 by_cases h1:K x y < 0
 ·exact .inl h1
 ·by_cases h2:K y x < 0
  ·exact .inr (.inr h2)
  ·exact .inr (.inl (hK.eq x y h1 h2))
omit [DecidableEq α] in
theorem LinK.trans (hK:LinK K) {x y z:α} (h1:K x y < 0) (h2:K y z < 0):K x z < 0:=by
 refine Decidable.byContradiction fun hn=>?_;exact hK.ord.negtr z x y hn (hK.ord.asym _ _ h1) h2
omit [DecidableEq α] in
theorem fh {a b:List α} (hK:LinK K) (ha:cb K a) (hb:cb K b) (h:∀ x,x ∈ a ↔ x ∈ b):a=b:=by
 classical
 have hp:a.Perm b:=(List.perm_ext_iff_of_nodup (ha.nodup hK) (hb.nodup hK)).2 h;exact List.Perm.eq_of_pairwise (fun x y _ _ h1 h2=>absurd h2 (hK.ord.asym _ _ h1)) ha hb hp
omit [DecidableEq α] in
theorem xg {l:List α} {v x:α}:x ∈ uq K l v ↔ x ∈ l ∨ x=v:=by
 induction l with
 | nil=>simp [uq]
 | cons a l ih =>
  unfold uq;split
  ·simp only [e9];exact ⟨fun h=>h.elim .inr .inl,fun h=>h.elim .inr .inl⟩
  ·rw [e9,ih,e9,or_assoc]
omit [DecidableEq α] in
theorem Bc {l:List α} {v:α} (hK:LinK K) (h:cb K l) (hv:v ∉ l):cb K (uq K l v):=by
 induction l with
 | nil=>exact List.pairwise_singleton _ _
 | cons a l ih =>
  unfold cb at h;rw [ml] at h;unfold uq;split
  ·rename_i hlt
   exact ml.2 ⟨fun y hy=>by
    rcases e9.1 hy with rfl | hy
    ·exact hlt
    ·exact hK.trans hlt (h.1 y hy),ml.2 h⟩
  ·rename_i hlt;refine ml.2 ⟨fun y hy=>?_,ih h.2 fun hm=>hv (rO _ hm)⟩;rcases xg.1 hy with hy | rfl
   ·exact h.1 y hy
   ·rcases hK.tri y a with k | k | k
    ·exact absurd k hlt
    ·exact absurd (k ▸ ko) hv
    ·exact k
omit [DecidableEq α] in
theorem BO {l:List α} {v:α}:(uq K l v).length=l.length + 1:=by
 induction l with
 | nil=>rfl
 | cons a l ih=>unfold uq; split <;> simp [ih]
theorem Cm {acc:List α} {v x:α}:x ∈ sj K acc v ↔ x ∈ acc ∨ x=v:=by
 unfold sj;split
 ·rename_i h;exact ⟨.inl,fun h2=>h2.elim id (fun e=>e ▸ h)⟩
 ·exact xg
theorem CI {acc:List α} {v:α} (hK:LinK K) (h:cb K acc):cb K (sj K acc v):=by
 unfold sj;split
 ·exact h
 ·rename_i hn;exact Bc hK h hn
theorem A8 {acc:List α} {v:α}:(sj K acc v).length ≤ acc.length + 1:=by
 unfold sj;split
 ·omega
 ·rw [BO]; exact aO _
theorem wC:∀ {l acc:List α} {x:α},x ∈ sr K acc l ↔ x ∈ acc ∨ x ∈ l
 | [],acc,x=>by simp [sr]
 | v :: l,acc,x=>by
  rw [show sr K acc (v :: l)=sr K (sj K acc v) l from rfl,wC,Cm,e9,or_assoc]
theorem wM (hK:LinK K):∀ {l acc:List α},cb K acc→cb K (sr K acc l)
 | [],_,h=>h
 | v :: l,acc,h=>wM hK (l:=l) (CI hK (v:=v) h)
theorem wk:∀ {l acc:List α},(sr K acc l).length ≤ acc.length + l.length
 | [],acc=>by simp [sr]
 | v :: l,acc=>by
  rw [show sr K acc (v :: l)=sr K (sj K acc v) l from rfl];have:=wk (l:=l) (acc:=sj K acc v);have:=A8 (K:=K) (acc:=acc) (v:=v);rw [cS]; omega
theorem gz (hK:LinK K) (l:List α):cb K (fM K l):=wM hK sH
theorem eu {l:List α} {x:α}:x ∈ fM K l ↔ x ∈ l:=by
 unfold fM; rw [wC]; simp
theorem jn {l:List α}:(fM K l).length ≤ l.length:=by
 have:=wk (K:=K) (l:=l) (acc:=[]);unfold fM;rw [ew] at this;omega
theorem qT {l:List α}:fM K l=[] ↔ l=[]:=by
 constructor
 ·intro h;cases l with
  | nil=>rfl
  | cons a l =>
   have:a ∈ fM K (a :: l):=eu.2 (ko ..);rw [h] at this;exact absurd this (by simp)
 ·rintro rfl; rfl
end
section
variable {α:Type} [Inhabited α] [DecidableEq α]
def bR (l:List α):Nat→Nat
 | 0=>0
 | k + 1=>bR l k + if k=0 ∨ l.getD k default ≠ l.getD (k - 1) default then 1 else 0
theorem rl (l:List α) (k:Nat):bR l k ≤ k:=by
 induction k with
 | zero=>exact aO _
 | succ k ih=>unfold bR; split <;> omega
theorem eR {l:List α} {k:Nat} (hk:k ≠ 0) (h:l.getD k default=l.getD (k - 1) default):bR l (k + 1)=bR l k:=by
 rw [bR,if_neg (by rintro (h' | h'); exact hk h'; exact h' h)]; rfl
theorem jH {l:List α} {k:Nat} (h:l.getD k default ≠ l.getD (k - 1) default):bR l (k + 1)=bR l k + 1:=by
 rw [bR,if_pos (.inr h)]
def ec (l:List α):Nat→List α
 | 0=>[]
 | k + 1=>ec l k ++ if k=0 ∨ l.getD k default ≠ l.getD (k - 1) default then [l.getD k default] else []
theorem oP (l:List α) (k:Nat):(ec l k).length=bR l k:=by
 induction k with
 | zero=>rfl
 | succ k ih=>rw [ec,bR,dl,ih]; split <;> rfl
theorem jO {l:List α} {k:Nat} (hk:k ≠ 0) (h:l.getD k default=l.getD (k - 1) default):ec l (k + 1)=ec l k:=by
 rw [ec,if_neg (by rintro (h' | h'); exact hk h'; exact h' h),iJ]
theorem jX {l:List α} {k:Nat} (h:l.getD k default ≠ l.getD (k - 1) default):ec l (k + 1)=ec l k ++ [l.getD k default]:=by
 rw [ec,if_pos (.inr h)]
theorem oT {l:List α}:∀ {k:Nat},k ≤ l.length→∀ x,x ∈ ec l k ↔ ∃ j,j < k∧l.getD j default=x
 | 0,_,x=>by simp [ec]
 | k + 1,hk,x=>by
  have ih:=oT (l:=l) (k:=k) (by omega) x;rw [ec,iH,ih];constructor
  ·rintro (⟨j,h1,h2⟩ | h)
   ·exact ⟨j,by omega,h2⟩
   ·split at h
    ·rw [fV] at h; exact ⟨k,by omega,h.symm⟩
    ·simp at h
  ·rintro ⟨j,h1,h2⟩;by_cases e:j=k
   ·subst e;by_cases c:j=0 ∨ l.getD j default ≠ l.getD (j - 1) default
    ·right; rw [if_pos c,fV]; exact h2.symm
    ·left;have c1:j ≠ 0:=fun h=>c (.inl h);have c2:l.getD j default=l.getD (j - 1) default:=mF fun h=>c (.inr h);exact ⟨j - 1,by omega,by rw [← c2]; exact h2⟩
   ·left; exact ⟨j,by omega,h2⟩
theorem tg {K:α→α→Int} (hK:LinK K) {l:List α} (hs:∀ i j,i < j→j < l.length→¬ K (l.getD j default) (l.getD i default) < 0):∀ {k:Nat},k ≤ l.length→cb K (ec l k)
 | 0,_=>sH
 | k + 1,hk=>by
  have ih:=tg hK hs (k:=k) (by omega);unfold cb;rw [ec,List.pairwise_append];refine ⟨ih,by split <;> simp,fun x hx y hy=>?_⟩;split at hy
  ·rename_i c;rw [fV] at hy;subst hy;obtain ⟨j,h1,rfl⟩:=(oT (by omega) x).1 hx;rcases c with c | c
   ·omega
   ·refine Decidable.byContradiction fun hn=>?_;have a2:=hs (k - 1) k (by omega) (by omega);have hne:K (l.getD (k - 1) default) (l.getD k default) < 0:=Decidable.byContradiction fun h3=>c (hK.eq _ _ a2 h3);by_cases e:j=k - 1
    ·rw [e] at hn; exact hn hne
    ·have a1:=hs j (k - 1) (by omega) (by omega);exact hK.ord.negtr _ _ _ hn a1 hne
  ·simp at hy
omit [DecidableEq α] in
theorem Cn {M:List α} {x:α}:(∃ j,j < M.length∧M.getD j default=x) ↔ x ∈ M:=by
 constructor
 ·rintro ⟨j,h1,rfl⟩; simp [List.getD,h1]
 ·intro h;obtain ⟨j,hj,rfl⟩:=jp h;exact ⟨j,hj,by simp [List.getD,hj]⟩
theorem pd {K:α→α→Int} (hK:LinK K) {l M:List α} (hp:M.Perm l) (hs:aY K 0 M.length M):ec M M.length=fM K l:=by
 refine fh hK (tg hK (fun i j h1 h2=>hs i j (cq _) h1 h2) (aO _)) (gz hK l) fun x=>?_;rw [oT (aO _),Cn,hp.mem_iff,eu]
end
abbrev Shn {α:Type} (l:List α):Prop:=l.length ≤ 17592186044416
structure Vtx where
 color:Int
 label:Int
 deriving Inhabited,DecidableEq
abbrev Spx:=List Vtx
def ph (v:Vtx):List AV:=[.int .i64 v.color,.int .i64 v.label]
abbrev bG (v:Vtx):AV:=.agg [.int .i64 v.color,.int .i64 v.label]
def ar (l:Spx):AV:=g9 2 bG l
def aE (l:List Spx):AV:=g9 1 ar l
def cX (l:Spx):List AV:=l.flatMap ph
theorem bS (v:Vtx):Dat (bG v):=Dat.agg (DatL.cons .int (DatL.cons .int DatL.nil))
theorem aA (l:Spx):Dat (ar l):=qg (fun x _ c hc=>by
 simp only [bG,AV.cells,e9,List.not_mem_nil,or_false] at hc;rcases hc with rfl | rfl <;> exact .int)
theorem bi (l:List Spx):Dat (aE l):=qg (fun x _ c hc=>by
 simp only [ar,g9,AV.cells,fV] at hc; subst hc; exact aA x)
instance datI_encX {v:Vtx}:DatI (bG v):=⟨bS v⟩
instance datI_encXs {l:Spx}:DatI (ar l):=⟨aA l⟩
instance datI_encXss {l:List Spx}:DatI (aE l):=⟨bi l⟩
theorem aG {l:Spx}:(ar l).cells=[ar l]:=rfl
theorem aQ {l:Spx}:(ar l).one=true:=rfl
theorem au {l:List Spx}:(aE l).cells=[aE l]:=rfl
theorem aD {l:List Spx}:(aE l).one=true:=rfl
theorem yp {l:Spx} {k:IntKind} {n:Int}:fg 2 (ar l) (.int k n)=if 0 ≤ n∧n < l.length then some (.iptr [.int .i64 (l.getD n.toNat default).color,.int .i64 (l.getD n.toNat default).label] 0) else none:=nP
theorem ap {l:Spx}:dK (ar l)=some (.int .i64 l.length):=mq
theorem xt {l:List Spx} {k:IntKind} {n:Int}:fg 1 (aE l) (.int k n)=if 0 ≤ n∧n < l.length then some (.iptr [ar (l.getD n.toNat default)] 0) else none:=nP
theorem an {l:List Spx}:dK (aE l)=some (.int .i64 l.length):=mq
theorem ix2 {l:Spx} {k:Nat} (h:k < l.length):fg 2 (ar l) (.int .i64 (k:Int))=some (.iptr [.int .i64 (l.getD k default).color,.int .i64 (l.getD k default).label] 0):=by
 rw [yp,if_pos ⟨by omega,by omega⟩,bz]
theorem fC {l:List Spx} {k:Nat} (h:k < l.length):fg 1 (aE l) (.int .i64 (k:Int))=some (.iptr [ar (l.getD k default)] 0):=by
 rw [xt,if_pos ⟨by omega,by omega⟩,bz]
theorem eH (l:Spx):(cX l).length=l.length * 2:=by
 induction l with
 | nil=>rfl
 | cons a l ih=>rw [cX,rY,dl,cS,show (l.flatMap ph).length=l.length * 2 from ih]; show 2 + _=_; omega
theorem f8 (l m:Spx):cX (l ++ m)=cX l ++ cX m:=List.flatMap_append
theorem EJ (v:Vtx):cX [v]=[.int .i64 v.color,.int .i64 v.label]:=rfl
theorem yx (l:Spx):(l.map bG).flatMap AV.cells=cX l:=by
 induction l with
 | nil=>rfl
 | cons a l ih=>rw [gv,rY,ih]; rfl
theorem sf {H:Hp} {s:AV} {l:Spx} (h:Row H 2 s (cX l)):Snap H s (ar l):=by
 refine Row.snap (elems:=l.map bG) (by rw [yx]; exact h) (fun y hy=>?_) (by omega) (fun y hy c hx=>?_)
 ·obtain ⟨n,_,rfl⟩:=cL.1 hy; rfl
 ·obtain ⟨n,_,rfl⟩:=cL.1 hy;simp only [bG,AV.cells,e9,List.not_mem_nil,or_false] at hx;rcases hx with rfl | rfl <;> exact .int
theorem lm {H:Hp} {s:AV} {l:List Spx} (h:Row H 1 s (l.map ar)):Snap H s (aE l):=h.snapL' (fun _=>rfl) (fun x _=>aA x)
theorem vT {H:Hp} {l:Spx}:ed 2 H (ar l)=some (l.length,cX l):=by
 unfold ar g9; rw [tM,yx]; simp
theorem EG {H:Hp} {l:List Spx}:ed 1 H (aE l)=some (l.length,l.map ar):=zI (fun _=>rfl)
theorem lq (l:Spx):AV.ones (cX l)=true:=by
 unfold AV.ones;rw [dL];intro x hx;obtain ⟨v,_,hv⟩:=List.mem_flatMap.1 hx;simp only [ph,e9,List.not_mem_nil,or_false] at hv;rcases hv with rfl | rfl <;> rfl
def bE (v w:Vtx):Int:=if v.color < w.color then -1 else if v.color > w.color then 1 else if v.label < w.label then -1 else if v.label > w.label then 1 else 0
def bJ:Spx→Spx→Int
 | [],[]=>0
 | [],_ :: _=>-1
 | _ :: _,[]=>1
 | a :: l,b :: m=>if bE a b ≠ 0 then bE a b else bJ l m
theorem mQ {v w:Vtx}:bE v w < 0 ↔ v.color < w.color ∨ (v.color=w.color∧v.label < w.label):=by
 unfold bE; (repeat' split) <;> constructor <;> intro h <;> omega
theorem pV {v w:Vtx}:v=w ↔ v.color=w.color∧v.label=w.label:=by
 obtain ⟨a,b⟩:=v;obtain ⟨c,d⟩:=w;simp
theorem ij {v w:Vtx}:bE v w=0 ↔ v=w:=by
 rw [pV]; unfold bE; (repeat' split) <;> constructor <;> intro h <;> omega
theorem sO (v w:Vtx):bE w v=- bE v w:=by
 unfold bE; (repeat' split) <;> omega
theorem gn:LinK bE where
 ord:={ irr:=fun x=>by rw [mQ]; omega,asym:=fun x y h=>by rw [mQ] at *; omega,negtr:=fun x y z h1 h2=>by rw [mQ] at *; omega }
 eq:=fun x y h1 h2=>by rw [mQ] at *; rw [pV]; omega
theorem dN:∀ l:Spx,bJ l l=0
 | []=>rfl
 | a :: l=>by rw [bJ,ij.2 rfl,if_neg (by simp)]; exact dN l
theorem nD:∀ {l m:Spx},bJ l m=0→l=m
 | [],[],_=>rfl
 | [],_ :: _,h=>by simp [bJ] at h
 | _ :: _,[],h=>by simp [bJ] at h
 | a :: l,b :: m,h=>by
  rw [bJ] at h;by_cases e:bE a b=0
  ·rw [if_neg (fun h=>h e)] at h;rw [ij.1 e,nD h]
  ·rw [if_pos e] at h; exact absurd h e
theorem AC {l m:Spx}:bJ l m=0 ↔ l=m:=⟨nD,fun h=>by rw [h]; exact dN _⟩
theorem oz:∀ l m:Spx,bJ m l=- bJ l m
 | [],[]=>rfl
 | [],_ :: _=>rfl
 | _ :: _,[]=>rfl
 | a :: l,b :: m=>by
  rw [bJ,bJ,sO a b];by_cases e:bE a b=0
  ·rw [e,if_neg (by simp),if_neg (by simp)]; exact oz l m
  ·rw [if_pos (by omega),if_pos e]
theorem qi:∀ (x y z:Spx),¬ bJ y x < 0→¬ bJ z y < 0→¬ bJ z x < 0
 | [],_,[],_,_=>by simp [bJ]
 | [],_,_ :: _,_,_=>by simp [bJ]
 | _ :: _,[],_,h,_=>by simp [bJ] at h
 | _ :: _,_ :: _,[],_,h=>by simp [bJ] at h
 | a :: x,b :: y,c :: z,h1,h2=>by
  rw [bJ] at h1 h2 ⊢;have n:=gn.ord.negtr a b c;by_cases e1:bE b a=0
  ·have e1':=ij.1 e1;subst e1';rw [if_neg (fun h=>h e1)] at h1;by_cases e2:bE c b=0
   ·rw [if_neg (fun h=>h e2)] at h2 ⊢;exact qi x y z h1 h2
   ·rw [if_pos e2] at h2 ⊢; exact h2
  ·rw [if_pos e1] at h1;by_cases e2:bE c b=0
   ·have e2':=ij.1 e2;subst e2';rw [if_pos e1]; exact h1
   ·rw [if_pos e2] at h2;have h3:=n h1 h2;by_cases e3:bE c a=0
    ·exfalso;have e3':=ij.1 e3;subst e3';have:=sO b c;omega
    ·rw [if_pos e3]; exact h3
theorem jT:LinK bJ where
 ord:={ irr:=fun x=>by rw [dN]; omega,asym:=fun x y h=>by rw [oz]; omega,negtr:=qi }
 eq:=fun x y h1 h2=>by
  have:=oz x y;exact nD (by omega)
theorem tv {l m:Spx} {k:Nat} (h1:k < l.length) (h2:k < m.length):bJ (l.drop k) (m.drop k)=if bE (l.getD k default) (m.getD k default) ≠ 0 then bE (l.getD k default) (m.getD k default) else bJ (l.drop (k + 1)) (m.drop (k + 1)):=by
 rw [ie h1,ie h2,bJ]
theorem rC {l m:Spx} {k:Nat} (h:l.length ≤ k ∨ m.length ≤ k) (hk:k ≤ l.length∧k ≤ m.length):bJ (l.drop k) (m.drop k)=if l.length < m.length then -1 else if m.length < l.length then 1 else 0:=by
 by_cases e1:l.length=k
 ·rw [yq (show l.length ≤ k by omega)];by_cases e2:m.length=k
  ·rw [yq (by omega),if_neg (by omega),if_neg (by omega)]; rfl
  ·rw [ie (l:=m) (k:=k) (by omega),if_pos (by omega)]; rfl
 ·have e2:m.length=k:=by omega
  rw [ie (l:=l) (k:=k) (by omega),yq (show m.length ≤ k by omega),if_neg (by omega),if_pos (by omega)]; rfl
def dw (f:Nat→Int):Nat→Int
 | 0=>0
 | n + 1=>if dw f n ≠ 0 then dw f n else f n
theorem dx {f:Nat→Int}:∀ {n:Nat},(∀ i,i < n→f i=0)→dw f n=0
 | 0,_=>rfl
 | n + 1,h=>by
  have:=dx (f:=f) (n:=n) (fun i hi=>h i (by omega));rw [dw,this,if_neg (by simp)]; exact h n (by omega)
theorem dr {f:Nat→Int}:∀ {n k:Nat},k < n→(∀ i,i < k→f i=0)→f k ≠ 0→dw f n=f k
 | 0,k,h,_,_=>absurd h (by omega)
 | n + 1,k,h,h0,hk=>by
  rw [dw];by_cases e:k=n
  ·subst e;rw [dx h0,if_neg (by simp)]
  ·rw [dr (n:=n) (by omega) h0 hk,if_pos hk]
theorem ip {f:Nat→Int}:∀ {n:Nat},dw f n=0→∀ i,i < n→f i=0
 | 0,_,i,h=>absurd h (by omega)
 | n + 1,h,i,hi=>by
  rw [dw] at h;by_cases e:dw f n=0
  ·rw [e,if_neg (by simp)] at h;by_cases ei:i=n
   ·subst ei; exact h
   ·exact ip e i (by omega)
  ·rw [if_pos e] at h; exact absurd h e
def b9 (v:Vtx):Bool:=decide (0 ≤ v.color) && decide (v.color < 8) && (decide (0 ≤ v.label) && decide (v.label ≤ 1048576))
def pA (l:Spx) (k:Nat):Int:=if b9 (l.getD k default)=false then 2 else if 0 < k∧0 ≤ bE (l.getD (k - 1) default) (l.getD k default) then 14 else 0
def cm (l:Spx):Int:=if l.length=0 then 16 else if 8 < l.length then 5 else dw (pA l) l.length
theorem cg {l:Spx} (h:cm l=0):1 ≤ l.length∧l.length ≤ 8∧cb bE l∧∀ v ∈ l,b9 v=true:=by
 unfold cm at h;split at h
 ·exact absurd h (by decide)
 split at h
 ·exact absurd h (by decide)
 rename_i h1 h2;have hz:=ip h
 have h3:∀ k,k < l.length→b9 (l.getD k default)=true∧(0 < k→bE (l.getD (k - 1) default) (l.getD k default) < 0):=fun k hk=>by
  have:=hz k hk;unfold pA at this;split at this
  ·exact absurd this (by decide)
  rename_i g1;split at this
  ·exact absurd this (by decide)
  rename_i g2;exact ⟨by simpa using g1,fun h0=>by omega⟩
 refine ⟨by omega,by omega,?_,fun v hv=>?_⟩
 ·have step:∀ j i,i < j→j < l.length→bE (l.getD i default) (l.getD j default) < 0:=by
    intro j
    induction j with
    | zero=>intro i h; omega
    | succ j ih =>
     intro i hi hj;have hs:=(h3 (j + 1) hj).2 (by omega);rw [kg] at hs;by_cases e:i=j
     ·subst e; exact hs
     ·exact gn.trans (ih i (by omega) (by omega)) hs
  unfold cb;rw [uR];intro i j hi hj hij;have:=step j i hij hj;simpa [List.getD,hi,hj] using this
 ·obtain ⟨i,hi,rfl⟩:=jp hv;have:=(h3 i hi).1;simpa [List.getD,hi] using this
theorem cE {α:Type} [Inhabited α] {K:α→α→Int} {l:List α} (h:cb K l) {i j:Nat} (hij:i < j) (hj:j < l.length):K (l.getD i default) (l.getD j default) < 0:=by
 have:=uR.1 h i j (by omega) hj hij;simpa [List.getD,hj,show i < l.length by omega] using this
theorem vV {l:Spx} (h1:1 ≤ l.length∧l.length ≤ 8) (h2:cb bE l) (h3:∀ v ∈ l,b9 v=true):cm l=0:=by
 unfold cm;rw [if_neg (by omega),if_neg (by omega)];refine dx fun k hk=>?_;unfold pA;rw [h3 _ (aB hk),if_neg (by simp),if_neg];rintro ⟨h0,h4⟩;have:=cE h2 (i:=k - 1) (j:=k) (by omega) hk;omega
end Go.Proofs.YtpfkjcjgdilkkaaGreat
namespace Go.Proofs.YtpfkjcjgdilkkaaGreat
open Go Go.Abs
open Nat (reduceEqDiff reduceAdd reduceLeDiff)
def c3i (a b:Int):Int:=if a < b then -1 else if a > b then 1 else 0
theorem yW (v w:Vtx):(if c3i v.color w.color ≠ 0 then c3i v.color w.color else c3i v.label w.label)=bE v w:=by
 unfold c3i bE;by_cases h1:v.color < w.color
 ·rw [if_pos h1,if_pos h1,if_pos (by simp)]
 ·rw [if_neg h1,if_neg h1];by_cases h2:v.color > w.color
  ·rw [if_pos h2,if_pos h2,if_pos (by simp)]
  ·rw [if_neg h2,if_neg h2,if_neg (by simp)]
attribute [local irreducible] aW av bQ bO bl bB aU bx bT cK Go.Abs.Fn bL Go.Abs.Pure aS bg Yl
theorem vW (n:Int):Pure Tryz.prog 111 [.int .i64 n] (.bool false):=by
 refine Pure.of_c2 follows Ex (ba rfl) ?_;simp only [EA,aK]
 repeat' (first|refine zW ?_|apply a_n|refine zO ?_|refine vZ ?_|refine ak rfl ?_|refine r1Z ?_|fail)
 exact bF (bq (fun h=>h rfl))
theorem t7 (a b:Int):Pure Tryz.prog 102 [.int .i64 a,.int .i64 b] (.int .i64 (c3i a b)):=by
 refine Pure.of_c2 follows El (ba rfl) ?_;simp only [FE,aK];have h1:=vW a;have h2:=vW b;unfold c3i
 repeat' (first|refine zW ?_|apply a_n|apply a_r|refine zO ?_|refine vZ ?_|refine cZ ?_ (hp:=by first | exact h1 | exact h2)|refine cFZ ?_|(refine zGZ ?_ ?_ <;> (intro _hg; try (exfalso; omega)))|refine ak rfl ?_|refine r1Z ?_|fail)
 all_goals (refine dg ?_)
 ·rw [if_pos (by omega)]
 ·rw [if_neg (by omega),if_pos (by omega)]
 ·rw [if_neg (by omega),if_neg (by omega)]
theorem Ed (a b:Int):Pure Tryz.prog 101 [cu [a,b]] (.int .i64 (if a ≠ 0 then a else b)):=by
 refine Pure.of_c2 follows D9 (ba rfl) ?_;simp only [Fu,aK]
 repeat' (first|refine zW ?_|apply a_n|refine zO ?_|refine vZ ?_|fail)
 refine xe (fun k=>[(3,.int .i64 0),(6,cu [a,b]),(7,.int .i64 2),(8,.int .i64 k)]) 2 (fun k=>[a,b].getD k default=0) (by (iterate 4 refine And.intro rfl ?_); trivial) ?_;intro k hk hz;rcases (by omega:k=0 ∨ k=1 ∨ k=2) with rfl | rfl | rfl
 ·have e:[a,b].getD 0 default=a:=rfl;have ix:fg 1 (cu [a,b]) (.int .i64 ((0:Nat):Int))=some (.iptr [.int .i64 a] 0):=rfl;by_cases h0:a=0
  ·have z:decide (a ≠ 0)=false:=bq (fun h=>h h0);have zz:=aI @ix @z; repeat' (first|refine zW ?_|apply a_n|refine zO ?_|refine vZ ?_|refine cFZ ?_|(refine zGZ ?_ ?_ <;> (intro _hg; try (exfalso; omega)))|fail)
   exact ⟨by omega,h0,by (iterate 4 refine And.intro rfl ?_); trivial,rfl,rfl⟩
  ·have z:decide (a ≠ 0)=true:=bk h0;have zz:=aI @ix @z; repeat' (first|refine zW ?_|apply a_n|apply a_r|refine zO ?_|refine vZ ?_|refine cTZ ?_|(refine zGZ ?_ ?_ <;> (intro _hg; try (exfalso; omega)))|refine ak rfl ?_|refine r1Z ?_|fail)
   rw [if_pos h0]; exact .int _ _
 ·have h0:a=0:=hz 0 (by omega);have ix:fg 1 (cu [a,b]) (.int .i64 ((1:Nat):Int))=some (.iptr [.int .i64 b] 0):=rfl;rw [if_neg (fun h=>h h0)];by_cases h1:b=0
  ·have z:decide (b ≠ 0)=false:=bq (fun h=>h h1);have zz:=aI @ix @z; repeat' (first|refine zW ?_|apply a_n|refine zO ?_|refine vZ ?_|refine cFZ ?_|(refine zGZ ?_ ?_ <;> (intro _hg; try (exfalso; omega)))|fail)
   exact ⟨by omega,h1,by (iterate 4 refine And.intro rfl ?_); trivial,rfl,rfl⟩
  ·have z:decide (b ≠ 0)=true:=bk h1;have zz:=aI @ix @z; repeat' (first|refine zW ?_|apply a_n|apply a_r|refine zO ?_|refine vZ ?_|refine cTZ ?_|(refine zGZ ?_ ?_ <;> (intro _hg; try (exfalso; omega)))|refine ak rfl ?_|refine r1Z ?_|fail)
   exact .int _ _
 ·have h0:a=0:=hz 0 (by omega);have h1:b=0:=hz 1 (by omega);rw [if_neg (fun h=>h h0),h1]
  repeat' (first|refine zW ?_|apply a_n|apply a_x|refine zO ?_|refine vZ ?_|(refine zGZ ?_ ?_ <;> (intro _hg; try (exfalso; omega)))|refine ak rfl ?_|refine r1Z ?_|fail)
  exact .int _ _
theorem yJ (v w:Vtx):Pure Tryz.prog 68 [bG v,bG w] (.int .i64 (bE v w)):=by
 refine Pure.of_c2 follows G4 (ba rfl) ?_;simp only [b68,aK];have h1:=t7 v.color w.color;have h2:=t7 v.label w.label;have h3:=Ed (c3i v.color w.color) (c3i v.label w.label);rw [yW] at h3
 repeat' (first|refine zW ?_|refine zM ?_|apply a_n|refine zO ?_|refine vZ ?_|refine cZ ?_ (hp:=by first | exact h1 | exact h2)|refine bxZ ?_|refine blZ ?_|fail)
 refine dG ev0 (by ((try simp only [dh,ZA,reduceEqDiff,↓reduceIte,reduceAdd,reduceLeDiff]); (try with_reducible rfl)); rfl) h3 (af (aw (xq aj rfl rfl) ae) rfl) ?_
 repeat' (first|apply a_n|refine zO ?_|refine vZ ?_|refine ak rfl ?_|refine r1Z ?_|fail)
 exact .int _ _
theorem rZ (v w:Vtx):Pure Tryz.prog 70 [bG v,bG w] (.int .i64 (bE v w)):=by
 refine Pure.of_c2 follows Hs (ba rfl) ?_;simp only [b70,aK];have h1:=t7 v.color w.color;have h2:=t7 v.label w.label;have h3:=Ed (c3i v.color w.color) (c3i v.label w.label);rw [yW] at h3
 repeat' (first|refine zW ?_|refine zM ?_|apply a_n|refine zO ?_|refine vZ ?_|refine cZ ?_ (hp:=by first | exact h1 | exact h2)|refine bxZ ?_|refine blZ ?_|fail)
 refine dG ev0 (by ((try simp only [dh,ZA,reduceEqDiff,↓reduceIte,reduceAdd,reduceLeDiff]); (try with_reducible rfl)); rfl) h3 (af (aw (xq aj rfl rfl) ae) rfl) ?_
 repeat' (first|apply a_n|refine zO ?_|refine vZ ?_|refine ak rfl ?_|refine r1Z ?_|fail)
 exact .int _ _
theorem rT (v w:Vtx):Pure Tryz.prog 96 [bG v,bG w] (.int .i64 (bE v w)):=by
 refine Pure.of_c2 follows Im (ba rfl) ?_;simp only [b96,aK];unfold bE
 repeat' (first|refine zW ?_|apply a_n|apply a_r|refine zO ?_|refine vZ ?_|refine bxZ ?_|(refine zGZ ?_ ?_ <;> (intro _hg; try (exfalso; omega)))|refine ak rfl ?_|refine r1Z ?_|fail)
 all_goals (refine dg ?_; (repeat' split) <;> omega)
theorem yb (v:Vtx):Pure Tryz.prog 67 [bG v] (.bool (b9 v)):=by
 refine Pure.of_c2 follows Hl (ba rfl) ?_;simp only [b67,aK];unfold b9
 repeat' (first|refine zW ?_|apply a_n|refine zO ?_|refine vZ ?_|refine bxZ ?_|refine gTZ ?_|refine gFZ ?_|(refine zGZ ?_ ?_ <;> (intro _hg; try (exfalso; omega)))|refine ak rfl ?_|refine r1Z ?_|fail)
 all_goals (refine bF ?_; rw [Bool.eq_iff_iff]; simp only [eL,ux,iI,false_iff]; omega)
theorem xd (v:Vtx):Pure Tryz.prog 83 [bG v] (.bool (b9 v)):=by
 refine Pure.of_c2 follows G3 (ba rfl) ?_;simp only [b83,aK];unfold b9
 repeat' (first|refine zW ?_|apply a_n|refine zO ?_|refine vZ ?_|refine bxZ ?_|refine gTZ ?_|refine gFZ ?_|(refine zGZ ?_ ?_ <;> (intro _hg; try (exfalso; omega)))|refine ak rfl ?_|refine r1Z ?_|fail)
 all_goals (refine bF ?_; rw [Bool.eq_iff_iff]; simp only [eL,ux,iI,false_iff]; omega)
theorem AN (v:Vtx):Pure Tryz.prog 95 [bG v] (.bool (b9 v)):=by
 refine Pure.of_c2 follows Iz (ba rfl) ?_;simp only [b95,aK];unfold b9
 repeat' (first|refine zW ?_|apply a_n|refine zO ?_|refine vZ ?_|refine bxZ ?_|refine gTZ ?_|refine gFZ ?_|(refine zGZ ?_ ?_ <;> (intro _hg; try (exfalso; omega)))|refine ak rfl ?_|refine r1Z ?_|fail)
 all_goals (refine bF ?_; rw [Bool.eq_iff_iff]; simp only [eL,ux,iI,false_iff]; omega)
end Go.Proofs.YtpfkjcjgdilkkaaGreat
namespace Go.Proofs.YtpfkjcjgdilkkaaGreat
open Go Go.Abs
attribute [local irreducible] aW av bQ bO bl bB aU bx bT cK Go.Abs.Fn bL Go.Abs.Pure aS bg Yl
theorem wR (l m:Spx) (hl:Shn l) (hm:Shn m):Pure Tryz.prog 87 [ar l,ar m,.func 68 []] (.int .i64 (bJ l m)):=by
 refine Pure.of_c2 follows GU (ba rfl) ?_;simp only [b87,aK];have hl':l.length ≤ 17592186044416:=hl;have hm':m.length ≤ 17592186044416:=hm;have zz:=@ap; repeat' (first|refine zW ?_|apply a_n|refine zO ?_|refine vZ ?_|fail)
 refine aZ (X:=Nat) (fun k=>[(0,ar l),(1,ar m),(2,.func 68 []),(11,ar l),(12,.int .i64 l.length),(13,.int .i64 k)]) (fun k H nx=>k ≤ l.length∧k ≤ m.length∧bJ l m=bJ (l.drop k) (m.drop k)) (fun k=>l.length - k) 0 ⟨cq _,cq _,rfl⟩ ag0 ?_;rintro k H nx ⟨h1,h2,h3⟩;by_cases hk:k < l.length
 rotate_left
 ·rw [h3,rC (by omega) ⟨h1,h2⟩];clear zz;have zz:=@ap; repeat' (first|refine zW ?_|apply a_n|apply a_x|apply a_r|refine zO ?_|refine vY ?_|(refine zGY ?_ ?_ <;> (intro _hg; try (exfalso; omega)))|refine ak rfl ?_|refine r1Y ?_|fail)
  all_goals (refine dg ?_)
  ·rw [if_pos (by omega)]
  ·rw [if_neg (by omega),if_neg (by omega)]
 have ix:=ix2 hk;by_cases hk2:k < m.length
 rotate_left
 ·rw [h3,rC (by omega) ⟨h1,h2⟩,if_neg (by omega),if_pos (by omega)];clear zz;have zz:=aI @ap @ix; repeat' (first|refine zW ?_|apply a_n|apply a_r|refine zO ?_|refine vY ?_|refine alY ?_|refine stY ?_|(refine zGY ?_ ?_ <;> (intro _hg; try (exfalso; omega)))|refine ak rfl ?_|refine r1Y ?_|fail)
  all_goals exact dg rfl
 have iy:=ix2 hk2;have hc:=yJ (l.getD k default) (m.getD k default);have hd:=tv hk hk2;by_cases he:bE (l.getD k default) (m.getD k default)=0
 ·rw [if_neg (fun h=>h he)] at hd;rw [he] at hc;have z:decide ((0:Int) ≠ 0)=false:=rfl;clear zz;have zz:=aI @ap (aI @ix (aI @iy @z)); repeat' (first|refine zW ?_|apply a_n|refine zO ?_|refine vY ?_|refine cY ?_ (hp:=hc) (hs:=by (first | refine af ?_ rfl | apply ag); (repeat' (first | exact ae | apply am | apply ai | exact bS _)); first | done | fail)|refine alY ?_|refine stY ?_|refine cFY ?_|(refine zGY ?_ ?_ <;> (intro _hg; try (exfalso; omega)))|fail)
  exact ⟨k + 1,by omega,⟨by omega,by omega,h3.trans hd⟩,ag0⟩
 ·rw [if_pos he] at hd;have z:decide (bE (l.getD k default) (m.getD k default) ≠ 0)=true:=bk he;rw [h3,hd];clear zz;have zz:=aI @ap (aI @ix (aI @iy @z)); repeat' (first|refine zW ?_|apply a_n|apply a_r|refine zO ?_|refine vY ?_|refine cY ?_ (hp:=hc) (hs:=by (first | refine af ?_ rfl | apply ag); (repeat' (first | exact ae | apply am | apply ai | exact bS _)); first | done | fail)|refine alY ?_|refine stY ?_|refine cTY ?_|(refine zGY ?_ ?_ <;> (intro _hg; try (exfalso; omega)))|refine ak rfl ?_|refine r1Y ?_|fail)
  exact .int _ _
theorem ig (l m:Spx) (hl:Shn l) (hm:Shn m):Pure Tryz.prog 49 [ar l,ar m] (.int .i64 (bJ l m)):=by
 refine Pure.of_c2 follows Hc (ba rfl) ?_;simp only [b49,aK];have h:=wR l m hl hm
 repeat' (first|refine zW ?_|apply a_n|refine zO ?_|refine vZ ?_|refine cZ ?_ (hp:=h) (hs:=by (first | refine af ?_ rfl | apply ag); (repeat' (first | exact ae | apply am | apply ai | exact aA _ | exact Dat.func (by simp))); first | done | fail)|refine ak rfl ?_|refine r1Z ?_|fail)
 exact .int _ _
theorem mB (l m:Spx) (hl:Shn l) (hm:Shn m):Pure Tryz.prog 62 [ar l,ar m] (.int .i64 (bJ l m)):=by
 refine Pure.of_c2 follows HJ (ba rfl) ?_;simp only [b62,aK];have hl':l.length ≤ 17592186044416:=hl;have hm':m.length ≤ 17592186044416:=hm
 repeat' (first|refine zW ?_|apply a_n|refine zO ?_|refine vZ ?_|fail)
 refine aZ (X:=Nat) (fun k=>[(0,ar l),(1,ar m),(5,.int .i64 k)]) (fun k H nx=>k ≤ l.length∧k ≤ m.length∧bJ l m=bJ (l.drop k) (m.drop k)) (fun k=>l.length - k) 0 ⟨cq _,cq _,rfl⟩ ag0 ?_;rintro k H nx ⟨h1,h2,h3⟩;by_cases hk:k < l.length∧k < m.length
 rotate_left
 ·rw [h3,rC (by omega) ⟨h1,h2⟩];have zz:=@ap; repeat' (first|refine zW ?_|apply a_n|apply a_x|apply a_r|refine zO ?_|refine vY ?_|refine gTY ?_|refine gFY ?_|refine cFY ?_|(refine zGY ?_ ?_ <;> (intro _hg; try (exfalso; omega)))|refine ak rfl ?_|refine r1Y ?_|fail)
  all_goals (refine dg ?_; (repeat' split) <;> omega)
 have ix:=ix2 hk.1;have iy:=ix2 hk.2;have hc:=rT (l.getD k default) (m.getD k default);have hd:=tv hk.1 hk.2;by_cases he:bE (l.getD k default) (m.getD k default)=0
 ·rw [if_neg (fun h=>h he)] at hd;rw [he] at hc;have z:decide ((0:Int) ≠ 0)=false:=rfl;have zz:=aI @ap (aI @ix (aI @iy @z)); repeat' (first|refine zW ?_|refine zM ?_|apply a_n|refine zO ?_|refine vY ?_|refine cY ?_ (hp:=hc) (hs:=by (first | refine af ?_ rfl | apply ag); (repeat' (first | exact ae | apply am | apply ai | exact bS _)); first | done | fail)|refine gTY ?_|refine cFY ?_|(refine zGY ?_ ?_ <;> (intro _hg; try (exfalso; omega)))|fail)
  exact ⟨k + 1,by omega,⟨by omega,by omega,h3.trans hd⟩,ag0⟩
 ·rw [if_pos he] at hd;have z:decide (bE (l.getD k default) (m.getD k default) ≠ 0)=true:=bk he;rw [h3,hd];have zz:=aI @ap (aI @ix (aI @iy @z)); repeat' (first|refine zW ?_|refine zM ?_|apply a_n|apply a_r|refine zO ?_|refine vY ?_|refine cY ?_ (hp:=hc) (hs:=by (first | refine af ?_ rfl | apply ag); (repeat' (first | exact ae | apply am | apply ai | exact bS _)); first | done | fail)|refine gTY ?_|refine cTY ?_|(refine zGY ?_ ?_ <;> (intro _hg; try (exfalso; omega)))|refine ak rfl ?_|refine r1Y ?_|fail)
  exact .int _ _
theorem C5 (l m:Spx) (hl:Shn l) (hm:Shn m):Pure Tryz.prog 84 [ar l,ar m] (.bool (decide (l=m))):=by
 refine Pure.of_c2 follows HU (ba rfl) ?_;simp only [b84,aK];have h:=mB l m hl hm
 repeat' (first|refine zW ?_|apply a_n|refine zO ?_|refine vZ ?_|refine cZ ?_ (hp:=h) (hs:=by (first | refine af ?_ rfl | apply ag); (repeat' (first | exact ae | apply am | apply ai | exact aA _)); first | done | fail)|refine ak rfl ?_|refine r1Z ?_|fail)
 exact bF (decide_eq_decide.2 AC)
theorem pH {l:Spx} {k:Nat}:pA l k=if b9 (l.getD k default)=false then 2 else if 0 < k∧0 ≤ bE (l.getD (k - 1) default) (l.getD k default) then 14 else 0:=rfl
theorem nJ (l:Spx) (hl:Shn l):Pure Tryz.prog 29 [ar l] (.int .i64 (cm l)):=by
 refine Pure.of_c2 follows Gq (ba rfl) ?_;simp only [b29,aK];have hl':l.length ≤ 17592186044416:=hl;by_cases h0:l.length=0
 ·rw [show cm l=16 by unfold cm; rw [if_pos h0]];have zz:=@ap; repeat' (first|refine zW ?_|apply a_n|apply a_r|refine zO ?_|refine vZ ?_|(refine zGZ ?_ ?_ <;> (intro _hg; try (exfalso; omega)))|refine ak rfl ?_|refine r1Z ?_|fail)
  all_goals exact dg rfl
 by_cases h8:8 < l.length
 ·rw [show cm l=5 by unfold cm; rw [if_neg h0,if_pos h8]];have zz:=@ap; repeat' (first|refine zW ?_|apply a_n|apply a_r|refine zO ?_|refine vZ ?_|(refine zGZ ?_ ?_ <;> (intro _hg; try (exfalso; omega)))|refine ak rfl ?_|refine r1Z ?_|fail)
  all_goals exact dg rfl
 rw [show cm l=dw (pA l) l.length by unfold cm; rw [if_neg h0,if_neg h8]];have zz:=@ap; repeat' (first|refine zW ?_|apply a_n|refine zO ?_|refine vZ ?_|(refine zGZ ?_ ?_ <;> (intro _hg; try (exfalso; omega)))|fail)
 refine aZ (X:=Nat) (fun k=>[(0,ar l),(13,ar l),(14,.int .i64 l.length),(15,.int .i64 k)]) (fun k H nx=>k ≤ l.length∧∀ i,i < k→pA l i=0) (fun k=>l.length - k) 0 ⟨cq _,fun i h=>absurd h (by omega)⟩ ag0 ?_;rintro k H nx ⟨h1,h2⟩;by_cases hk:k < l.length
 rotate_left
 ·rw [dx fun i hi=>h2 i (by omega)];clear zz;have zz:=@ap; repeat' (first|refine zW ?_|apply a_n|apply a_x|refine zO ?_|refine vY ?_|(refine zGY ?_ ?_ <;> (intro _hg; try (exfalso; omega)))|refine ak rfl ?_|refine r1Y ?_|fail)
  exact .int _ _
 have ix:=ix2 hk;have hp:=yb (l.getD k default);have hs:=pH (l:=l) (k:=k);cases hr:b9 (l.getD k default)
 ·rw [hr] at hp;rw [hr,if_pos rfl] at hs;rw [dr hk h2 (by rw [hs]; decide),hs];clear zz;have zz:=aI @ap @ix; repeat' (first|refine zW ?_|apply a_n|apply a_r|refine zO ?_|refine vY ?_|refine cY ?_ (hp:=hp) (hs:=by (first | refine af ?_ rfl | apply ag); (repeat' (first | exact ae | apply am | apply ai | exact bS _)); first | done | fail)|refine alY ?_|refine stY ?_|refine cTY ?_|(refine zGY ?_ ?_ <;> (intro _hg; try (exfalso; omega)))|refine ak rfl ?_|refine r1Y ?_|fail)
  exact .int _ _
 rw [hr] at hp;rw [hr,if_neg (by decide)] at hs;by_cases hk0:0 < k
 rotate_left
 ·rw [if_neg (fun h=>hk0 h.1)] at hs;have zk:decide (0 < (k:Int))=false:=bq (by omega);clear zz;have zz:=aI @ap (aI @ix @zk); repeat' (first|refine zW ?_|refine zM ?_|apply a_n|refine zO ?_|refine vY ?_|refine cY ?_ (hp:=hp) (hs:=by (first | refine af ?_ rfl | apply ag); (repeat' (first | exact ae | apply am | apply ai | exact bS _)); first | done | fail)|refine alY ?_|refine stY ?_|refine gFY ?_|refine cFY ?_|(refine zGY ?_ ?_ <;> (intro _hg; try (exfalso; omega)))|fail)
  exact ⟨k + 1,by omega,⟨by omega,fun i hi=>by
   rcases gI.1 hi with h | rfl
   ·exact h2 i h
   ·exact hs⟩,ag0⟩
 have zk:decide (0 < (k:Int))=true:=bk (by omega)
 have iy:fg 2 (ar l) (.int .i64 ((k:Int) - 1))=some (.iptr [.int .i64 (l.getD (k - 1) default).color,.int .i64 (l.getD (k - 1) default).label] 0):=by
  have:=ix2 (l:=l) (k:=k - 1) (by omega)
  rwa [show ((k - 1:Nat):Int)=(k:Int) - 1 by omega] at this
 have hc:=yJ (l.getD (k - 1) default) (l.getD k default);by_cases hv:0 ≤ bE (l.getD (k - 1) default) (l.getD k default)
 ·have z:decide (0 ≤ bE (l.getD (k - 1) default) (l.getD k default))=true:=bk hv;rw [if_pos ⟨hk0,hv⟩] at hs;rw [dr hk h2 (by rw [hs]; decide),hs];clear zz;have zz:=aI @ap (aI @ix (aI @iy (aI @zk @z))); repeat' (first|refine zW ?_|refine zM ?_|apply a_n|apply a_r|refine zO ?_|refine vY ?_|refine cY ?_ (hp:=by first | exact hp | exact hc) (hs:=by (first | refine af ?_ rfl | apply ag); (repeat' (first | exact ae | apply am | apply ai | exact bS _)); first | done | fail)|refine alY ?_|refine stY ?_|refine gTY ?_|refine cTY ?_|refine cFY ?_|(refine zGY ?_ ?_ <;> (intro _hg; try (exfalso; omega)))|refine ak rfl ?_|refine r1Y ?_|fail)
  exact .int _ _
 ·have z:decide (0 ≤ bE (l.getD (k - 1) default) (l.getD k default))=false:=bq hv;rw [if_neg (fun h=>hv h.2)] at hs;clear zz;have zz:=aI @ap (aI @ix (aI @iy (aI @zk @z))); repeat' (first|refine zW ?_|refine zM ?_|apply a_n|refine zO ?_|refine vY ?_|refine cY ?_ (hp:=by first | exact hp | exact hc) (hs:=by (first | refine af ?_ rfl | apply ag); (repeat' (first | exact ae | apply am | apply ai | exact bS _)); first | done | fail)|refine alY ?_|refine stY ?_|refine gTY ?_|refine cFY ?_|(refine zGY ?_ ?_ <;> (intro _hg; try (exfalso; omega)))|fail)
  exact ⟨k + 1,by omega,⟨by omega,fun i hi=>by
   rcases gI.1 hi with h | rfl
   ·exact h2 i h
   ·exact hs⟩,ag0⟩
theorem yG (l:Spx) (hl:Shn l):Pure Tryz.prog 61 [ar l] (.int .i64 (cm l)):=by
 refine Pure.of_c2 follows HO (ba rfl) ?_;simp only [b61,aK];have hl':l.length ≤ 17592186044416:=hl;by_cases h0:l.length=0
 ·rw [show cm l=16 by unfold cm; rw [if_pos h0]];have zz:=@ap; repeat' (first|refine zW ?_|apply a_n|apply a_r|refine zO ?_|refine vZ ?_|(refine zGZ ?_ ?_ <;> (intro _hg; try (exfalso; omega)))|refine ak rfl ?_|refine r1Z ?_|fail)
  all_goals exact dg rfl
 by_cases h8:8 < l.length
 ·rw [show cm l=5 by unfold cm; rw [if_neg h0,if_pos h8]];have zz:=@ap; repeat' (first|refine zW ?_|apply a_n|apply a_r|refine zO ?_|refine vZ ?_|(refine zGZ ?_ ?_ <;> (intro _hg; try (exfalso; omega)))|refine ak rfl ?_|refine r1Z ?_|fail)
  all_goals exact dg rfl
 rw [show cm l=dw (pA l) l.length by unfold cm; rw [if_neg h0,if_neg h8]];have zz:=@ap; repeat' (first|refine zW ?_|apply a_n|refine zO ?_|refine vZ ?_|(refine zGZ ?_ ?_ <;> (intro _hg; try (exfalso; omega)))|fail)
 refine aZ (X:=Nat) (fun k=>[(0,ar l),(3,.int .i64 k)]) (fun k H nx=>k ≤ l.length∧∀ i,i < k→pA l i=0) (fun k=>l.length - k) 0 ⟨cq _,fun i h=>absurd h (by omega)⟩ ag0 ?_;rintro k H nx ⟨h1,h2⟩;by_cases hk:k < l.length
 rotate_left
 ·rw [dx fun i hi=>h2 i (by omega)];clear zz;have zz:=@ap; repeat' (first|refine zW ?_|apply a_n|apply a_x|refine zO ?_|refine vY ?_|(refine zGY ?_ ?_ <;> (intro _hg; try (exfalso; omega)))|refine ak rfl ?_|refine r1Y ?_|fail)
  exact .int _ _
 have ix:=ix2 hk;have hp:=AN (l.getD k default);have hs:=pH (l:=l) (k:=k);cases hr:b9 (l.getD k default)
 ·rw [hr] at hp;rw [hr,if_pos rfl] at hs;rw [dr hk h2 (by rw [hs]; decide),hs];clear zz;have zz:=aI @ap @ix; repeat' (first|refine zW ?_|apply a_n|apply a_r|refine zO ?_|refine vY ?_|refine cY ?_ (hp:=hp) (hs:=by (first | refine af ?_ rfl | apply ag); (repeat' (first | exact ae | apply am | apply ai | exact bS _)); first | done | fail)|refine cTY ?_|(refine zGY ?_ ?_ <;> (intro _hg; try (exfalso; omega)))|refine ak rfl ?_|refine r1Y ?_|fail)
  exact .int _ _
 rw [hr] at hp;rw [hr,if_neg (by decide)] at hs;by_cases hk0:0 < k
 rotate_left
 ·rw [if_neg (fun h=>hk0 h.1)] at hs;have zk:decide (0 < (k:Int))=false:=bq (by omega);clear zz;have zz:=aI @ap (aI @ix @zk); repeat' (first|refine zW ?_|refine zM ?_|apply a_n|refine zO ?_|refine vY ?_|refine cY ?_ (hp:=hp) (hs:=by (first | refine af ?_ rfl | apply ag); (repeat' (first | exact ae | apply am | apply ai | exact bS _)); first | done | fail)|refine gFY ?_|refine cFY ?_|(refine zGY ?_ ?_ <;> (intro _hg; try (exfalso; omega)))|fail)
  exact ⟨k + 1,by omega,⟨by omega,fun i hi=>by
   rcases gI.1 hi with h | rfl
   ·exact h2 i h
   ·exact hs⟩,ag0⟩
 have zk:decide (0 < (k:Int))=true:=bk (by omega)
 have iy:fg 2 (ar l) (.int .i64 ((k:Int) - 1))=some (.iptr [.int .i64 (l.getD (k - 1) default).color,.int .i64 (l.getD (k - 1) default).label] 0):=by
  have:=ix2 (l:=l) (k:=k - 1) (by omega)
  rwa [show ((k - 1:Nat):Int)=(k:Int) - 1 by omega] at this
 have hc:=rT (l.getD (k - 1) default) (l.getD k default);by_cases hv:0 ≤ bE (l.getD (k - 1) default) (l.getD k default)
 ·have z:decide (0 ≤ bE (l.getD (k - 1) default) (l.getD k default))=true:=bk hv;rw [if_pos ⟨hk0,hv⟩] at hs;rw [dr hk h2 (by rw [hs]; decide),hs];clear zz;have zz:=aI @ap (aI @ix (aI @iy (aI @zk @z))); repeat' (first|refine zW ?_|refine zM ?_|apply a_n|apply a_r|refine zO ?_|refine vY ?_|refine cY ?_ (hp:=by first | exact hp | exact hc) (hs:=by (first | refine af ?_ rfl | apply ag); (repeat' (first | exact ae | apply am | apply ai | exact bS _)); first | done | fail)|refine gTY ?_|refine cTY ?_|refine cFY ?_|(refine zGY ?_ ?_ <;> (intro _hg; try (exfalso; omega)))|refine ak rfl ?_|refine r1Y ?_|fail)
  exact .int _ _
 ·have z:decide (0 ≤ bE (l.getD (k - 1) default) (l.getD k default))=false:=bq hv;rw [if_neg (fun h=>hv h.2)] at hs;clear zz;have zz:=aI @ap (aI @ix (aI @iy (aI @zk @z))); repeat' (first|refine zW ?_|refine zM ?_|apply a_n|refine zO ?_|refine vY ?_|refine cY ?_ (hp:=by first | exact hp | exact hc) (hs:=by (first | refine af ?_ rfl | apply ag); (repeat' (first | exact ae | apply am | apply ai | exact bS _)); first | done | fail)|refine gTY ?_|refine cFY ?_|(refine zGY ?_ ?_ <;> (intro _hg; try (exfalso; omega)))|fail)
  exact ⟨k + 1,by omega,⟨by omega,fun i hi=>by
   rcases gI.1 hi with h | rfl
   ·exact h2 i h
   ·exact hs⟩,ag0⟩
end Go.Proofs.YtpfkjcjgdilkkaaGreat
namespace Go.Proofs.YtpfkjcjgdilkkaaGreat
open Go Go.Abs
open Nat (reduceEqDiff reduceAdd reduceLeDiff)
theorem yz (a b c d:Int):dt [.int,.int] [.int .i64 a,.int .i64 b] [.int .i64 c,.int .i64 d]=some (decide (a=c∧b=d)):=by
 have e:∀ x y:Int,(x == y)=decide (x=y):=fun x y=>rfl;by_cases h1:a=c
 ·by_cases h2:b=d
  ·subst h1 h2; simp [dt,iw]
  ·subst h1; simp only [dt,iw,if_true,e,bq h2,decide_true,h2,and_false,decide_false]
 ·simp only [dt,iw,if_true,e,bq h1,h1,false_and,decide_false]
theorem acq (a b c d:Int):mJ .eql [.int,.int] [.int .i64 a,.int .i64 b] [.int .i64 c,.int .i64 d]=some (.bool (decide (a=c∧b=d))):=by
 unfold mJ; rw [yz]
theorem acn (a b c d:Int):mJ .neq [.int,.int] [.int .i64 a,.int .i64 b] [.int .i64 c,.int .i64 d]=some (.bool (!decide (a=c∧b=d))):=by
 unfold mJ; rw [yz]
theorem jW (v w:Vtx):decide (v.color=w.color∧v.label=w.label)=decide (v=w):=decide_eq_decide.2 pV.symm
theorem jt {H:Hp} {d:Nat} {x y:AV}:ed 2 (ao H d [x,y]) (.msl d 2 2 0 1)=some (1,[x,y]):=kW (n:=2) (len:=1) (off:=0) (cs:=[x,y]) aj rfl (by simp)
theorem bW {α:Type} [Inhabited α] {l:List α} {k:Nat} (h:k < l.length):l.take (k + 1)=l.take k ++ [l.getD k default]:=by
 rw [List.take_add_one]; simp [List.getD,h]
section
variable {α:Type} {K:α→α→Int} {v x:α} {l:List α}
end
def cT (a b:Spx):Bool:=a.all fun v=>decide (v ∈ b)
attribute [local irreducible] aW av bQ bO bl bB aU bx bT cK Go.Abs.Fn bL Go.Abs.Pure aS bg Yl
theorem Hq (l:Spx) (v:Vtx) (hl:Shn l):Pure Tryz.prog 97 [ar l,bG v] (.bool (decide (v ∈ l))):=by
 refine Pure.of_c2 follows H9 (ba rfl) ?_;simp only [b97,aK];have hl':l.length ≤ 17592186044416:=hl;have zz:=@ap; repeat' (first|refine zW ?_|apply a_n|refine zO ?_|refine vZ ?_|refine bxZ ?_|fail)
 refine xe (fun k=>[(0,ar l),(3,.ptr 0 2 0),(5,.int .i64 k)]) l.length (fun k=>l.getD k default ≠ v) (by simp (disch:=omega) only [agr,ZG,reduceEqDiff,↓reduceIte,cS,ew,b0,reduceAdd]) ?_;intro k hk hz;by_cases hk2:k < l.length
 rotate_left
 ·clear zz;have zz:=@ap; repeat' (first|refine zW ?_|apply a_n|apply a_x|refine zO ?_|refine vZ ?_|(refine zGZ ?_ ?_ <;> (intro _hg; try (exfalso; omega)))|refine ak rfl ?_|refine r1Z ?_|fail)
  exact bF (Au fun i hi=>hz i (by omega)).symm
 have ix:=ix2 hk2;have hd:=jW (l.getD k default) v;by_cases he:l.getD k default=v
 ·rw [bk he] at hd;rw [BH hk2 he];clear zz;have zz:=aI @ap (aI @ix (aI @acq @hd)); repeat' (first|refine zW ?_|apply a_n|apply a_r|refine zO ?_|refine vZ ?_|refine cTZ ?_|(refine zGZ ?_ ?_ <;> (intro _hg; try (exfalso; omega)))|refine ak rfl ?_|refine r1Z ?_|fail)
  exact .bool _
 ·rw [bq he] at hd;clear zz;have zz:=aI @ap (aI @ix (aI @acq @hd)); repeat' (first|refine zW ?_|apply a_n|refine zO ?_|refine vZ ?_|refine cFZ ?_|(refine zGZ ?_ ?_ <;> (intro _hg; try (exfalso; omega)))|fail)
  exact ⟨hk2,he,ag0,rfl,rfl⟩
theorem A5 (a b:Spx) (ha:Shn a) (hb:Shn b):Pure Tryz.prog 63 [ar a,ar b] (.bool (cT a b)):=by
 refine Pure.of_c2 follows HV (ba rfl) ?_;simp only [b63,aK];have ha':a.length ≤ 17592186044416:=ha;have zz:=@ap; repeat' (first|refine zW ?_|apply a_n|refine zO ?_|refine vZ ?_|fail)
 refine xe (fun k=>[(0,ar a),(1,ar b),(5,.int .i64 k)]) a.length (fun k=>decide (a.getD k default ∈ b)=true) ag0 ?_;intro k hk hz;by_cases hk2:k < a.length
 rotate_left
 ·clear zz;have zz:=@ap; repeat' (first|refine zW ?_|apply a_n|apply a_x|refine zO ?_|refine vZ ?_|(refine zGZ ?_ ?_ <;> (intro _hg; try (exfalso; omega)))|refine ak rfl ?_|refine r1Z ?_|fail)
  exact bF (jm fun i hi=>hz i (by omega)).symm
 have ix:=ix2 hk2;have hh:=Hq b (a.getD k default) hb;cases hm:decide (a.getD k default ∈ b)
 ·rw [hm] at hh;rw [show cT a b=false from ib hk2 hm];clear zz;have zz:=aI @ap @ix; repeat' (first|refine zW ?_|apply a_n|apply a_r|refine zO ?_|refine vZ ?_|refine cZ ?_ (hp:=hh) (hs:=by (first | refine af ?_ rfl | apply ag); (repeat' (first | exact ae | apply am | apply ai | exact aA _ | exact bS _)); first | done | fail)|refine cTZ ?_|(refine zGZ ?_ ?_ <;> (intro _hg; try (exfalso; omega)))|refine ak rfl ?_|refine r1Z ?_|fail)
  exact .bool _
 ·rw [hm] at hh;clear zz;have zz:=aI @ap @ix; repeat' (first|refine zW ?_|apply a_n|refine zO ?_|refine vZ ?_|refine cZ ?_ (hp:=hh) (hs:=by (first | refine af ?_ rfl | apply ag); (repeat' (first | exact ae | apply am | apply ai | exact aA _ | exact bS _)); first | done | fail)|refine cFZ ?_|(refine zGZ ?_ ?_ <;> (intro _hg; try (exfalso; omega)))|fail)
  exact ⟨hk2,rfl,ag0,rfl,rfl⟩
theorem zN (x y:List Spx) (hx:Shn x) (hy:Shn y) (hxs:∀ v ∈ x,Shn v) (hys:∀ v ∈ y,Shn v):Pure Tryz.prog 46 [aE x,aE y] (.bool (decide (x=y))):=by
 refine Pure.of_c2 follows HF (ba rfl) ?_;simp only [b46,aK];have hx':x.length ≤ 17592186044416:=hx;have hy':y.length ≤ 17592186044416:=hy;by_cases hlen:x.length=y.length
 rotate_left
 ·have z:decide ((x.length:Int) ≠ y.length)=true:=bk (by omega);rw [bq (fun e=>hlen (by rw [e]))];have zz:=aI @an @z; repeat' (first|refine zW ?_|apply a_n|apply a_r|refine zO ?_|refine vZ ?_|refine cTZ ?_|refine ak rfl ?_|refine r1Z ?_|fail)
  exact .bool _
 have z:decide ((x.length:Int) ≠ y.length)=false:=bq (by omega);have zz:=aI @an @z; repeat' (first|refine zW ?_|apply a_n|refine zO ?_|refine vZ ?_|refine cFZ ?_|fail)
 refine aZ (X:=Nat) (fun k=>[(0,aE x),(1,aE y),(5,.int .i64 k)]) (fun k H nx=>k ≤ x.length∧∀ i,i < k→x.getD i default=y.getD i default) (fun k=>x.length - k) 0 ⟨cq _,fun i h=>absurd h (by omega)⟩ ag0 ?_;rintro k H nx ⟨hk,hz⟩;by_cases hk2:k < x.length
 rotate_left
 ·clear zz;have zz:=@an; repeat' (first|refine zW ?_|apply a_n|apply a_x|refine zO ?_|refine vY ?_|(refine zGY ?_ ?_ <;> (intro _hg; try (exfalso; omega)))|refine ak rfl ?_|refine r1Y ?_|fail)
  refine bF ?_
  symm; rw [ux]
  refine List.ext_getElem hlen fun i h3 h4=>?_;have:=hz i (by omega);simpa [List.getD,h3,h4] using this
 have ix:=fC hk2;have iy:=fC (l:=y) (k:=k) (by omega);have hc:=C5 (x.getD k default) (y.getD k default) (hxs _ (aB hk2)) (hys _ (aB (by omega)));by_cases he:x.getD k default=y.getD k default
 ·rw [bk he] at hc;clear zz;have zz:=aI @an (aI @ix @iy); repeat' (first|refine zW ?_|refine zM ?_|apply a_n|refine zO ?_|refine vY ?_|refine cY ?_ (hp:=hc) (hs:=by (first | refine af ?_ rfl | apply ag); (repeat' (first | exact ae | apply am | apply ai | exact aA _)); first | done | fail)|refine cFY ?_|(refine zGY ?_ ?_ <;> (intro _hg; try (exfalso; omega)))|fail)
  exact ⟨k + 1,by omega,⟨by omega,fun i hi=>by
   rcases gI.1 hi with h | rfl
   ·exact hz i h
   ·exact he⟩,ag0⟩
 ·rw [bq he] at hc;rw [bq (p:=x=y) (fun e=>he (by rw [e]))];clear zz;have zz:=aI @an (aI @ix @iy); repeat' (first|refine zW ?_|refine zM ?_|apply a_n|apply a_r|refine zO ?_|refine vY ?_|refine cY ?_ (hp:=hc) (hs:=by (first | refine af ?_ rfl | apply ag); (repeat' (first | exact ae | apply am | apply ai | exact aA _)); first | done | fail)|refine cTY ?_|(refine zGY ?_ ?_ <;> (intro _hg; try (exfalso; omega)))|refine ak rfl ?_|refine r1Y ?_|fail)
  exact .bool _
def lv (c:List Spx):Bool:=decide (c.length ≤ 30) && c.all fun s=>decide (s.length ≤ 10)
theorem Du (l:Spx) (hl:Shn l):Pure Tryz.prog 94 [ar l] (.bool (decide (l.length ≤ 10))):=by
 refine Pure.of_c2 follows HN (ba rfl) ?_;simp only [b94,aK];have zz:=@ap; repeat' (first|refine zW ?_|apply a_n|refine zO ?_|refine vZ ?_|refine ak rfl ?_|refine r1Z ?_|fail)
 exact bF (decide_eq_decide.2 (by omega))
theorem B3 (c:List Spx) (hc:Shn c) (hs:∀ s ∈ c,Shn s):Pure Tryz.prog 60 [aE c] (.bool (lv c)):=by
 refine Pure.of_c2 follows Ia (ba rfl) ?_;simp only [b60,aK];have hc':c.length ≤ 17592186044416:=hc;unfold lv;by_cases h:c.length ≤ 30
 rotate_left
 ·have z:decide (30 < (c.length:Int))=true:=bk (by omega);rw [bq h,Bool.false_and];have zz:=aI @an @z; repeat' (first|refine zW ?_|apply a_n|apply a_r|refine zO ?_|refine vZ ?_|refine cTZ ?_|refine ak rfl ?_|refine r1Z ?_|fail)
  exact .bool _
 have z:decide (30 < (c.length:Int))=false:=bq (by omega);rw [bk h,Bool.true_and];have zz:=aI @an @z; repeat' (first|refine zW ?_|apply a_n|refine zO ?_|refine vZ ?_|refine cFZ ?_|fail)
 refine xe (fun k=>[(0,aE c),(3,.int .i64 k)]) c.length (fun k=>decide ((c.getD k default).length ≤ 10)=true) ag0 ?_;intro k hk hz;by_cases hk2:k < c.length
 rotate_left
 ·clear zz;have zz:=@an; repeat' (first|refine zW ?_|apply a_n|apply a_x|refine zO ?_|refine vZ ?_|(refine zGZ ?_ ?_ <;> (intro _hg; try (exfalso; omega)))|refine ak rfl ?_|refine r1Z ?_|fail)
  exact bF (jm fun i hi=>hz i (by omega)).symm
 have ix:=fC hk2;have hf:=Du (c.getD k default) (hs _ (aB hk2));cases hm:decide ((c.getD k default).length ≤ 10)
 ·rw [hm] at hf;rw [ib hk2 hm];clear zz;have zz:=aI @an @ix; repeat' (first|refine zW ?_|apply a_n|apply a_r|refine zO ?_|refine vZ ?_|refine cZ ?_ (hp:=hf) (hs:=by (first | refine af ?_ rfl | apply ag); (repeat' (first | exact ae | apply am | apply ai | exact aA _)); first | done | fail)|refine cTZ ?_|(refine zGZ ?_ ?_ <;> (intro _hg; try (exfalso; omega)))|refine ak rfl ?_|refine r1Z ?_|fail)
  exact .bool _
 ·rw [hm] at hf;clear zz;have zz:=aI @an @ix; repeat' (first|refine zW ?_|apply a_n|refine zO ?_|refine vZ ?_|refine cZ ?_ (hp:=hf) (hs:=by (first | refine af ?_ rfl | apply ag); (repeat' (first | exact ae | apply am | apply ai | exact aA _)); first | done | fail)|refine cFZ ?_|(refine zGZ ?_ ?_ <;> (intro _hg; try (exfalso; omega)))|fail)
  exact ⟨hk2,rfl,ag0,rfl,rfl⟩
abbrev d9 (c:List Spx):AV:=.agg [aE c]
theorem bm (c:List Spx):Dat (d9 c):=Dat.agg (DatL.cons (bi c) DatL.nil)
instance datI_encCx {c:List Spx}:DatI (d9 c):=⟨bm c⟩
theorem CV (c:List Spx) (hc:Shn c) (hs:∀ s ∈ c,Shn s):Pure Tryz.prog 22 [d9 c] (.bool (lv c)):=by
 refine Pure.of_c2 follows Ih (ba rfl) ?_;simp only [b22,aK];have h:=B3 c hc hs;have zz:=aI @aD @au; repeat' (first|refine zW ?_|apply a_n|refine zO ?_|refine vZ ?_|refine cZ ?_ (hp:=h) (hs:=by (first | refine af ?_ rfl | apply ag); (repeat' (first | exact ae | apply am | apply ai | exact bi _)); first | done | fail)|refine bxZ ?_|refine ak rfl ?_|refine r1Z ?_|fail)
 exact .bool _
theorem BK (x y:List Spx) (hx:Shn x) (hy:Shn y) (hxs:∀ v ∈ x,Shn v) (hys:∀ v ∈ y,Shn v):Pure Tryz.prog 14 [d9 x,d9 y] (.bool (decide (x=y))):=by
 refine Pure.of_c2 follows Ib (ba rfl) ?_;simp only [b14,aK];have h:=zN x y hx hy hxs hys;have zz:=aI @aD @au; repeat' (first|refine zW ?_|apply a_n|refine zO ?_|refine vZ ?_|refine cZ ?_ (hp:=h) (hs:=by (first | refine af ?_ rfl | apply ag); (repeat' (first | exact ae | apply am | apply ai | exact bi _)); first | done | fail)|refine bxZ ?_|refine ak rfl ?_|refine r1Z ?_|fail)
 exact .bool _
end Go.Proofs.YtpfkjcjgdilkkaaGreat
namespace Go.Proofs.YtpfkjcjgdilkkaaGreat
open Go Go.Abs
theorem iL {α:Type} [Inhabited α] {l:List α} {p:α→Bool} {k:Nat} (hk:k < l.length) (h:∀ i,i < k→p (l.getD i default)=false) (hv:p (l.getD k default)=true):l.any p=true∧l.findIdx p=k:=by
 have e:l.getD k default=l[k]:=by simp [List.getD,hk]
 refine ⟨kY.2 ⟨l[k],sa hk,by rw [← e]; exact hv⟩,(List.findIdx_eq hk).2 ⟨by rw [← e]; exact hv,fun j hj=>by have:=h j hj; rwa [show l.getD j default=l[j] by simp [List.getD,show j < l.length by omega]] at this⟩⟩
section
attribute [local irreducible] aW av bQ bO bl bB aU bx bT cK Go.Abs.Fn bL Go.Abs.Pure aS bg Yl
theorem AR (l:Spx) (p:Vtx→Bool) (g:Nat) (caps:List AV) (hd:∀ x ∈ caps,Dat x) (hg:∀ x ∈ l,Pure Tryz.prog g (bG x :: caps) (.bool (p x))) (hl:Shn l):Pure Tryz.prog 78 [ar l,.func g caps] (.int .i64 (if l.any p then (l.findIdx p:Nat) else -1)):=by
 refine Pure.of_c2 follows Iv (ba rfl) ?_;simp only [b78,aK];have hl':l.length ≤ 17592186044416:=hl;have zz:=@ap; repeat' (first|refine zW ?_|apply a_n|refine zO ?_|refine vZ ?_|fail)
 refine aZ (X:=Nat) (fun k=>[(0,ar l),(1,.func g caps),(6,ar l),(7,.int .i64 l.length),(8,.int .i64 k)]) (fun k H nx=>k ≤ l.length∧∀ i,i < k→p (l.getD i default)=false) (fun k=>l.length - k) 0 ⟨cq _,fun i h=>absurd h (by omega)⟩ ag0 ?_;rintro k H nx ⟨hk,hz⟩;by_cases hk2:k < l.length
 rotate_left
 ·rw [il fun i hi=>hz i (by omega),if_neg (by decide)]
  repeat' (first|refine zW ?_|apply a_n|apply a_x|refine zO ?_|refine vY ?_|(refine zGY ?_ ?_ <;> (intro _hg; try (exfalso; omega)))|refine ak rfl ?_|refine r1Y ?_|fail)
  exact dg rfl
 have ix:=ix2 hk2;have hc:=hg _ (aB hk2);cases hp:p (l.getD k default)
 ·rw [hp] at hc;clear zz;have zz:=@ix; repeat' (first|refine zW ?_|apply a_n|refine zO ?_|refine vY ?_|(refine zGY ?_ ?_ <;> (intro _hg; try (exfalso; omega)))|fail)
  refine dG ev0 ev0 hc (ag (aw (bS _ _) (aC hd))) ?_
  repeat' (first|apply a_n|refine zO ?_|refine vY ?_|refine cFY ?_|fail)
  exact ⟨k + 1,by omega,⟨by omega,fun i hi=>by
   rcases gI.1 hi with h | rfl
   ·exact hz i h
   ·exact hp⟩,ag0⟩
 ·rw [hp] at hc;obtain ⟨e1,e2⟩:=iL hk2 hz hp;rw [e1,e2,if_pos rfl];clear zz;have zz:=@ix; repeat' (first|refine zW ?_|apply a_n|refine zO ?_|refine vY ?_|(refine zGY ?_ ?_ <;> (intro _hg; try (exfalso; omega)))|fail)
  refine dG ev0 ev0 hc (ag (aw (bS _ _) (aC hd))) ?_
  repeat' (first|refine zW ?_|apply a_n|apply a_r|refine zO ?_|refine vY ?_|refine cTY ?_|refine ak rfl ?_|refine r1Y ?_|fail)
  exact .int _ _
theorem uI (l:Spx) (p:Vtx→Bool) (g:Nat) (caps:List AV) (hd:∀ x ∈ caps,Dat x) (hg:∀ x ∈ l,Pure Tryz.prog g (bG x :: caps) (.bool (p x))) (hl:Shn l):Pure Tryz.prog 35 [ar l,.func g caps] (.bool (l.any p)):=by
 refine Pure.of_c2 follows HR (ba rfl) ?_;simp only [b35,aK];have h:=AR l p g caps hd hg hl
 repeat' (first|refine zW ?_|apply a_n|refine zO ?_|refine vZ ?_|refine cZ ?_ (hp:=h) (hs:=by (first | refine af ?_ rfl | apply ag); (repeat' (first | exact ae | apply am | apply ai | exact aA _ | exact Dat.func hd)); first | done | fail)|refine ak rfl ?_|refine r1Z ?_|fail)
 cases hA:l.any p
 ·exact bF (by simp)
 ·exact bF (by simp)
theorem z9 (l:List Spx) (p:Spx→Bool) (g:Nat) (caps:List AV) (hd:∀ x ∈ caps,Dat x) (hg:∀ x ∈ l,Pure Tryz.prog g (ar x :: caps) (.bool (p x))) (hl:Shn l):Pure Tryz.prog 80 [aE l,.func g caps] (.int .i64 (if l.any p then (l.findIdx p:Nat) else -1)):=by
 refine Pure.of_c2 follows Ii (ba rfl) ?_;simp only [b80,aK];have hl':l.length ≤ 17592186044416:=hl;have zz:=@an; repeat' (first|refine zW ?_|apply a_n|refine zO ?_|refine vZ ?_|fail)
 refine aZ (X:=Nat) (fun k=>[(0,aE l),(1,.func g caps),(6,aE l),(7,.int .i64 l.length),(8,.int .i64 k)]) (fun k H nx=>k ≤ l.length∧∀ i,i < k→p (l.getD i default)=false) (fun k=>l.length - k) 0 ⟨cq _,fun i h=>absurd h (by omega)⟩ ag0 ?_;rintro k H nx ⟨hk,hz⟩;by_cases hk2:k < l.length
 rotate_left
 ·rw [il fun i hi=>hz i (by omega),if_neg (by decide)]
  repeat' (first|refine zW ?_|apply a_n|apply a_x|refine zO ?_|refine vY ?_|(refine zGY ?_ ?_ <;> (intro _hg; try (exfalso; omega)))|refine ak rfl ?_|refine r1Y ?_|fail)
  exact dg rfl
 have ix:=fC hk2;have hc:=hg _ (aB hk2);cases hp:p (l.getD k default)
 ·rw [hp] at hc;clear zz;have zz:=@ix; repeat' (first|refine zW ?_|apply a_n|refine zO ?_|refine vY ?_|(refine zGY ?_ ?_ <;> (intro _hg; try (exfalso; omega)))|fail)
  refine dG ev0 ev0 hc (ag (aw (aA _ _) (aC hd))) ?_
  repeat' (first|apply a_n|refine zO ?_|refine vY ?_|refine cFY ?_|fail)
  exact ⟨k + 1,by omega,⟨by omega,fun i hi=>by
   rcases gI.1 hi with h | rfl
   ·exact hz i h
   ·exact hp⟩,ag0⟩
 ·rw [hp] at hc;obtain ⟨e1,e2⟩:=iL hk2 hz hp;rw [e1,e2,if_pos rfl];clear zz;have zz:=@ix; repeat' (first|refine zW ?_|apply a_n|refine zO ?_|refine vY ?_|(refine zGY ?_ ?_ <;> (intro _hg; try (exfalso; omega)))|fail)
  refine dG ev0 ev0 hc (ag (aw (aA _ _) (aC hd))) ?_
  repeat' (first|refine zW ?_|apply a_n|apply a_r|refine zO ?_|refine vY ?_|refine cTY ?_|refine ak rfl ?_|refine r1Y ?_|fail)
  exact .int _ _
theorem nB (l:List Spx) (p:Spx→Bool) (g:Nat) (caps:List AV) (hd:∀ x ∈ caps,Dat x) (hg:∀ x ∈ l,Pure Tryz.prog g (ar x :: caps) (.bool (p x))) (hl:Shn l):Pure Tryz.prog 38 [aE l,.func g caps] (.bool (l.any p)):=by
 refine Pure.of_c2 follows HB (ba rfl) ?_;simp only [b38,aK];have h:=z9 l p g caps hd hg hl
 repeat' (first|refine zW ?_|apply a_n|refine zO ?_|refine vZ ?_|refine cZ ?_ (hp:=h) (hs:=by (first | refine af ?_ rfl | apply ag); (repeat' (first | exact ae | apply am | apply ai | exact bi _ | exact Dat.func hd)); first | done | fail)|refine ak rfl ?_|refine r1Z ?_|fail)
 cases hA:l.any p
 ·exact bF (by simp)
 ·exact bF (by simp)
theorem Bm (l:Spx) (v:Vtx) (hl:Shn l):∃ r:Int,Pure Tryz.prog 79 [ar l,bG v] (.int .i64 r)∧decide (0 ≤ r)=decide (v ∈ l):=by
 have hl':l.length ≤ 17592186044416:=hl;have hn:l.findIdx (fun x=>decide (x=v))=l.findIdx (fun x=>decide (x=v)):=rfl;refine ⟨if l.any (fun x=>decide (x=v)) then (l.findIdx (fun x=>decide (x=v)):Nat) else -1,?_,?_⟩
 rotate_left
 ·by_cases hm:v ∈ l
  ·rw [if_pos (kY.2 ⟨v,hm,by simp⟩),bk hm]; simp
  ·rw [if_neg,bq hm]
   ·rfl
   ·rw [kY]; rintro ⟨x,hx,e⟩;exact hm ((o0 e) ▸ hx)
 refine Pure.of_c2 follows Gr (ba rfl) ?_;simp only [b79,aK];have zz:=@ap; repeat' (first|refine zW ?_|apply a_n|refine zO ?_|refine vZ ?_|refine bxZ ?_|fail)
 refine aZ (X:=Nat) (fun k=>[(0,ar l),(3,.ptr 0 2 0),(6,ar l),(7,.int .i64 l.length),(8,.int .i64 k)]) (fun k H nx=>k ≤ l.length∧H 0=some [.int .i64 v.color,.int .i64 v.label]∧∀ i,i < k→decide (l.getD i default=v)=false) (fun k=>l.length - k) 0 ⟨cq _,rfl,fun i h=>absurd h (by omega)⟩ (by (iterate 5 refine And.intro rfl ?_); trivial) ?_;rintro k H nx ⟨hk,g0,hz⟩;by_cases hk2:k < l.length
 rotate_left
 ·rw [il fun i hi=>hz i (by omega),if_neg (by decide)]
  repeat' (first|refine zW ?_|apply a_n|apply a_x|refine zO ?_|refine vY ?_|(refine zGY ?_ ?_ <;> (intro _hg; try (exfalso; omega)))|refine ak rfl ?_|refine r1Y ?_|fail)
  exact dg rfl
 have ix:=ix2 hk2;have hd:=jW v (l.getD k default);cases hp:decide (l.getD k default=v)
 ·rw [bq (p:=v=l.getD k default) (fun h=>of_decide_eq_false hp h.symm)] at hd;clear zz;have zz:=aI @ix (aI @g0 (aI @acq @hd)); repeat' (first|refine zW ?_|apply a_n|refine zO ?_|refine vY ?_|refine cFY ?_|(refine zGY ?_ ?_ <;> (intro _hg; try (exfalso; omega)))|fail)
  exact ⟨k + 1,by omega,⟨by omega,g0,fun i hi=>by
   rcases gI.1 hi with h | rfl
   ·exact hz i h
   ·exact hp⟩,ag0⟩
 ·rw [bk (p:=v=l.getD k default) (o0 hp).symm] at hd;obtain ⟨e1,e2⟩:=iL (p:=fun x=>decide (x=v)) hk2 hz hp;rw [e1,e2,if_pos rfl];clear zz;have zz:=aI @ix (aI @g0 (aI @acq @hd)); repeat' (first|refine zW ?_|apply a_n|apply a_r|refine zO ?_|refine vY ?_|refine cTY ?_|(refine zGY ?_ ?_ <;> (intro _hg; try (exfalso; omega)))|refine ak rfl ?_|refine r1Y ?_|fail)
  exact .int _ _
theorem xf (l:Spx) (v:Vtx) (hl:Shn l):Pure Tryz.prog 37 [ar l,bG v] (.bool (decide (v ∈ l))):=by
 refine Pure.of_c2 follows GG (ba rfl) ?_;simp only [b37,aK];obtain ⟨r,h,e⟩:=Bm l v hl
 repeat' (first|refine zW ?_|apply a_n|refine zO ?_|refine vZ ?_|refine cZ ?_ (hp:=h) (hs:=by (first | refine af ?_ rfl | apply ag); (repeat' (first | exact ae | apply am | apply ai | exact aA _ | exact bS _)); first | done | fail)|refine bxZ ?_|refine ak rfl ?_|refine r1Z ?_|fail)
 exact bF e
theorem wv (x y:Spx) (hx:Shn x) (hy:Shn y):Pure Tryz.prog 20 [ar x,ar y] (.bool (decide (x=y))):=by
 refine Pure.of_c2 follows Hh (ba rfl) ?_;simp only [b20,aK];have hx':x.length ≤ 17592186044416:=hx;have hy':y.length ≤ 17592186044416:=hy;by_cases hlen:x.length=y.length
 rotate_left
 ·have z:decide ((x.length:Int) ≠ y.length)=true:=bk (by omega);rw [bq (fun e=>hlen (by rw [e]))];have zz:=aI @ap @z; repeat' (first|refine zW ?_|apply a_n|apply a_r|refine zO ?_|refine vZ ?_|refine cTZ ?_|refine ak rfl ?_|refine r1Z ?_|fail)
  exact .bool _
 have z:decide ((x.length:Int) ≠ y.length)=false:=bq (by omega);have zz:=aI @ap @z; repeat' (first|refine zW ?_|apply a_n|refine zO ?_|refine vZ ?_|refine cFZ ?_|fail)
 refine xe (fun k=>[(0,ar x),(1,ar y),(11,ar x),(12,.int .i64 x.length),(13,.int .i64 k)]) x.length (fun k=>x.getD k default=y.getD k default) ag0 ?_;intro k hk hz;by_cases hk2:k < x.length
 rotate_left
 ·repeat' (first|refine zW ?_|apply a_n|apply a_x|refine zO ?_|refine vZ ?_|(refine zGZ ?_ ?_ <;> (intro _hg; try (exfalso; omega)))|refine ak rfl ?_|refine r1Z ?_|fail)
  refine bF ?_
  symm; rw [ux]
  refine List.ext_getElem hlen fun i h3 h4=>?_;have:=hz i (by omega);simpa [List.getD,h3,h4] using this
 have ix:=ix2 hk2;have iy:=ix2 (l:=y) (k:=k) (by omega);have hd:=jW (x.getD k default) (y.getD k default);by_cases he:x.getD k default=y.getD k default
 ·rw [bk he] at hd;clear zz;have zz:=aI @ix (aI @iy (aI @acn @hd)); repeat' (first|refine zW ?_|apply a_n|refine zO ?_|refine vZ ?_|refine cFZ ?_|(refine zGZ ?_ ?_ <;> (intro _hg; try (exfalso; omega)))|fail)
  exact ⟨hk2,he,ag0,rfl,rfl⟩
 ·rw [bq he] at hd;rw [bq (p:=x=y) (fun e=>he (by rw [e]))];clear zz;have zz:=aI @ix (aI @iy (aI @acn @hd)); repeat' (first|refine zW ?_|apply a_n|apply a_r|refine zO ?_|refine vZ ?_|refine cTZ ?_|(refine zGZ ?_ ?_ <;> (intro _hg; try (exfalso; omega)))|refine ak rfl ?_|refine r1Z ?_|fail)
  exact .bool _
end
end Go.Proofs.YtpfkjcjgdilkkaaGreat