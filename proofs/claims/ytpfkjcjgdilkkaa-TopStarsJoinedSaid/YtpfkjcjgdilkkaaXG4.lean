/- Texts of this claim, one after the other: AbsI2, AbsO, Code, U1, T100, T101, T102, T103, T104, T105, T108. -/
import Derived.Test.YtpfkjcjgdilkkaaXG3
import Derived.ChangeArms
import Derived.Carry
import Derived.Deep.Slices
import Derived.Lib.SmallJoins
import Derived.Test.YtpfkjcjgdilkkaaProg
import Derived.KernelRfl

set_option linter.unusedSimpArgs false
set_option linter.unusedVariables false
namespace Go.Abs
open Go.RowKit
def SF:Nat:=40
abbrev CL:=FuncId→List AV→HT→Nat→Option (AV × HT × Nat)
abbrev PC:=FuncId→List AV→HT→Option AV
def wv (cl:CL) (pc:PC) (yl:CL) (dm:DM) (i:Ins) (T:TT) (H:HT) (nx:Nat):Option (AV × HT × Nat) :=
 match ic i with
 | .val=>match dm2 dm (toT T) i with
  | true=>match aZ (toT T) (bU H) i with
   | some r=>some (r,H,nx)
   | none=>none
  | false=>none
 | .eff=>match dm2 dm (toT T) i with
  | true=>xT T H nx i
  | false=>none
 | .call=>match i with
  | .call f args=>match ov (toT T) f with
   | .func g caps=>match dm.isText with
    | true=>cl g (args.map (ov (toT T)) ++ caps) H nx
    | false=>match pc g (args.map (ov (toT T)) ++ caps) H with
     | some r=>some (r,H,nx)
     | none=>none
   | .bfn g fs=>match dm.isText with
    | true=>cl g (fs ++ args.map (ov (toT T))) H nx
    | false=>none
   | .yld b=>match dm.isText with
    | true=>yl b (args.map (ov (toT T))) H nx
    | false=>none
   | _=>none
  | _=>none
 | .sp=>match dm.isText with
  | true=>rsp (toT T) H nx i
  | false=>none
def oC (cl:CL) (pc:PC) (yl:CL) (dm:DM):List Op2→TT→HT→Nat→Option (TT × HT × Nat)
 | [],T,H,nx=>some (T,H,nx)
 | o :: l,T,H,nx=>match g2 (toT T) o.g with
  | none=>none
  | some false=>match stT T o.d (.tup []) with
   | some T=>oC cl pc yl dm l T H nx
   | none=>none
  | some true=>match wv cl pc yl dm o.i T H nx with
   | none=>none
   | some (r,H,nx)=>frV r fun r=>match stT T o.d r with
    | some T=>oC cl pc yl dm l T H nx
    | none=>none
structure CLok (P:Program) (L:LV) (cl:CL) (pc:PC) (yl:CL):Prop where
 cl:∀ {g:FuncId} {args:List AV} {H H':HT} {nx nx':Nat} {r:AV} {R:AV→Hp→Nat→Prop},cl g args H nx=some (r,H',nx')→R r (toH L H') nx'→Fn P g args (toH L H) nx R
 pc:∀ {g:FuncId} {args:List AV} {H:HT} {r:AV},pc g args H=some r→gQ P g args (toH L H) r
 yl:∀ {g:Nat} {args:List AV} {H H':HT} {nx nx':Nat} {r:AV} {R:AV→Hp→Nat→Prop},yl g args H nx=some (r,H',nx')→R r (toH L H') nx'→Yl P g args (toH L H) nx R
theorem sk {P:Program} {L:LV} {cl:CL} {pc:PC} {yl:CL} (hk:CLok P L cl pc yl) {dm:DM} {i:Ins} {T:TT} {H H':HT} {nx nx':Nat} {r:AV} {K:AV→Hp→Nat→Prop}
    (h:wv cl pc yl dm i T H nx=some (r,H',nx')) (hK:K r (toH L H') nx'):aX P dm i (toT T) (toH L H) nx K:=by
 unfold wv at h
 unfold aX
 cases hi:ic i with
 | val =>
  rw [hi] at h
  simp only at h ⊢
  split at h
  ·rename_i hd
   split at h
   ·rename_i r' hr
    cases h
    exact ⟨hd,by rw [s0 bB hr]; exact hK⟩
   ·cases h
  ·cases h
 | eff =>
  rw [hi] at h
  simp only at h ⊢
  split at h
  ·rename_i hd
   exact ⟨hd,by rw [wj h]; exact hK⟩
  ·cases h
 | sp =>
  rw [hi] at h
  simp only at h ⊢
  split at h
  ·rename_i hd
   exact ⟨hd,xZ h hK⟩
  ·cases h
 | call =>
  rw [hi] at h
  simp only at h ⊢
  cases i <;> try (cases hi; done)
  rename_i f args
  simp only at h ⊢
  cases hf:ov (toT T) f <;> rw [hf] at h <;> simp only at h <;> try (cases h; done)
  ·rename_i g caps
   left
   show match dm.isText with | false=>_ | true=>_
   cases hd:dm.isText with
   | true=>rw [hd] at h; exact hk.cl h hK
   | false =>
    rw [hd] at h
    simp only at h
    split at h
    ·rename_i r' hr
     cases h
     exact ⟨_,hk.pc hr,hK⟩
    ·cases h
  ·rename_i g fs
   right
   cases hd:dm.isText with
   | true=>rw [hd] at h; exact ⟨rfl,.inr ⟨g,fs,rfl,hk.cl h hK⟩⟩
   | false=>rw [hd] at h; cases h
  ·rename_i b
   right
   cases hd:dm.isText with
   | true=>rw [hd] at h; exact ⟨rfl,.inl ⟨b,rfl,hk.yl h hK⟩⟩
   | false=>rw [hd] at h; cases h
theorem f4 {P:Program} {L:LV} {cl:CL} {pc:PC} {yl:CL} (hk:CLok P L cl pc yl) {dm:DM} {K:SP}:∀ {l:List Op2} {T T':TT} {H H':HT} {nx nx':Nat},
    oC cl pc yl dm l T H nx=some (T',H',nx')→K (toT T') (toH L H') nx'→ah P dm l (toT T) (toH L H) nx K
 | [],_,_,_,_,_,_,h,hK=>by cases h; exact hK
 | o :: l,T,T',H,H',nx,nx',h,hK=>by
  simp only [oC] at h
  show aK (g2 (toT T) o.g) _ _
  cases hg:g2 (toT T) o.g with
  | none=>rw [hg] at h; cases h
  | some b =>
   rw [hg] at h
   cases b with
   | false =>
    simp only at h
    split at h
    ·rename_i T1 hs
     have:=f4 hk h hK
     rw [iQ hs] at this
     exact this
    ·cases h
   | true =>
    simp only at h
    split at h
    ·cases h
    ·rename_i r H1 nx1 hr
     simp only [jO] at h
     split at h
     ·rename_i T1 hs
      have:=f4 hk h hK
      rw [iQ hs] at this
      exact sk (K:=fun r H nx=>ah P dm l (aG (toT T) o.d r) H nx K) hk hr this
     ·cases h
def il (f:AV→AV→Bool):List AV→List AV→Bool
 | [],[]=>true
 | x :: l,y :: m=>match f x y with
  | true=>il f l m
  | false=>false
 | _,_=>false
theorem lP {f:AV→AV→Bool} (h:∀ x y,f x y=true→x=y):∀ {l m:List AV},il f l m=true→l=m
 | [],[],_=>rfl
 | [],_ :: _,h=>by cases h
 | _ :: _,[],h=>by cases h
 | x :: l,y :: m,he=>by
  simp only [il] at he
  split at he
  ·rename_i hx
   rw [h _ _ hx,lP h he]
  ·cases he
def pb:Nat→AV→AV→Bool
 | 0,_,_=>false
 | k + 1,x,y=>match x with
  | .undef=>match y with
   | .undef=>true
   | _=>false
  | .bool a=>match y with
   | .bool b=>decide (a=b)
   | _=>false
  | .int j a=>match y with
   | .int i b=>decide (j=i) && decide (a=b)
   | _=>false
  | .str a=>match y with
   | .str b=>decide (a=b)
   | _=>false
  | .nilp=>match y with
   | .nilp=>true
   | _=>false
  | .nilf=>match y with
   | .nilf=>true
   | _=>false
  | .nilm=>match y with
   | .nilm=>true
   | _=>false
  | .esl=>match y with
   | .esl=>true
   | _=>false
  | .ptr b n o=>match y with
   | .ptr b' n' o'=>Nat.beq b b' && Nat.beq n n' && Nat.beq o o'
   | _=>false
  | .msl b n s o l=>match y with
   | .msl b' n' s' o' l'=>Nat.beq b b' && Nat.beq n n' && Nat.beq s s' && Nat.beq o o' && Nat.beq l l'
   | _=>false
  | .mp b=>match y with
   | .mp b'=>Nat.beq b b'
   | _=>false
  | .yld b=>match y with
   | .yld b'=>Nat.beq b b'
   | _=>false
  | .sl s l=>match y with
   | .sl s' l'=>Nat.beq s s' && il (pb k) l l'
   | _=>false
  | .iptr l s=>match y with
   | .iptr l' s'=>Nat.beq s s' && il (pb k) l l'
   | _=>false
  | .func s l=>match y with
   | .func s' l'=>Nat.beq s s' && il (pb k) l l'
   | _=>false
  | .agg l=>match y with
   | .agg l'=>il (pb k) l l'
   | _=>false
  | .tup l=>match y with
   | .tup l'=>il (pb k) l l'
   | _=>false
  | _=>false
theorem rV:∀ (k:Nat) (x y:AV),pb k x y=true→x=y
 | 0,_,_,h=>by cases h
 | k + 1,x,y,h=>by
  have ih:∀ {l m:List AV},il (pb k) l m=true→l=m:=fun h=>lP (rV k) h
  cases x <;> simp only [pb] at h <;> (try (cases h; done)) <;> cases y <;> simp only [Bool.and_eq_true,decide_eq_true_eq] at h <;> (try (cases h; done)) <;> (try rfl)
  ·rw [h]
  ·rw [h.1,h.2]
  ·rw [h]
  ·rw [Nat.eq_of_beq_eq_true h.1.1,Nat.eq_of_beq_eq_true h.1.2,Nat.eq_of_beq_eq_true h.2]
  ·rw [Nat.eq_of_beq_eq_true h.1,ih h.2]
  ·rw [Nat.eq_of_beq_eq_true h.1,ih h.2]
  ·rw [Nat.eq_of_beq_eq_true h.1.1.1.1,Nat.eq_of_beq_eq_true h.1.1.1.2,Nat.eq_of_beq_eq_true h.1.1.2,Nat.eq_of_beq_eq_true h.1.2,Nat.eq_of_beq_eq_true h.2]
  ·rw [show _=_ from Nat.eq_of_beq_eq_true h.1,ih h.2]
  ·rw [Nat.eq_of_beq_eq_true h]
  ·rw [Nat.eq_of_beq_eq_true h]
  ·rw [ih h]
  ·rw [ih h]
def loadAt (T:Tm):Ins→Option Nat
 | .ld1 a=>match ov T a with
  | .ptr b _ _=>some b
  | _=>none
 | .ldn _ a=>match ov T a with
  | .ptr b _ _=>some b
  | _=>none
 | _=>none
def iM:List (Op2 × Nat)→TT→HT→List Nat→List Nat
 | [],_,_,acc=>acc
 | (o,0) :: l,T,H,acc=>match g2 (toT T) o.g with
  | some true=>match aZ (toT T) (bU H) o.i with
   | some r=>match stT T o.d r with
    | some T'=>match loadAt (toT T) o.i with
     | some b=>iM l T' H (b :: acc)
     | none=>iM l T' H acc
    | none=>acc
   | none=>iM l T H acc
  | _=>iM l T H acc
 | (_,_ + 1) :: l,T,H,acc=>iM l T H acc
def mw (H0 H:HT):List Nat→Bool
 | []=>true
 | b :: l=>match bU H0 b with
  | none=>mw H0 H l
  | some x=>match bU H b with
   | some y=>match il (pb SF) x y with
    | true=>mw H0 H l
    | false=>false
   | none=>false
def lR (H0:HT) (ids:List Nat):Hp:=fun b=>match ids.elem b with
 | true=>bU H0 b
 | false=>none
theorem mP {H0 H:HT}:∀ {ids:List Nat},mw H0 H ids=true→∀ b cs,ids.elem b=true→bU H0 b=some cs→bU H b=some cs
 | [],_,b,cs,hb,_=>by cases hb
 | a :: l,h,b,cs,hb,hc=>by
  simp only [mw] at h
  have hb':b=a ∨ l.elem b=true:=by
   rw [List.elem_cons] at hb
   cases e:b == a with
   | true=>exact .inl (eq_of_beq e)
   | false=>rw [e] at hb; exact .inr hb
  split at h
  ·rename_i hn
   rcases hb' with rfl | hb'
   ·rw [hn] at hc; cases hc
   ·exact mP h b cs hb' hc
  ·rename_i x hx
   split at h
   ·rename_i y hy
    split at h
    ·rename_i he
     rcases hb' with rfl | hb'
     ·rw [hx] at hc; cases hc
      rw [hy,lP (rV SF) he]
     ·exact mP h b cs hb' hc
    ·cases h
   ·cases h
theorem n3 {L:LV} {H0 H:HT} {ids:List Nat} (h:mw H0 H ids=true):Sub (lR H0 ids) (toH L H):=fun b cs hb=>by
 unfold lR at hb
 split at hb
 ·rename_i he
  exact bB b cs (mP h b cs he hb)
 ·cases hb
def fU (cl:CL) (pc:PC) (yl:CL) (H0:HT) (ids:List Nat):List (Op2 × Nat)→TT→HT→Nat→Option (TT × HT × Nat)
 | [],T,H,nx=>some (T,H,nx)
 | (o,0) :: l,T,H,nx=>match g2 (toT T) o.g with
  | none=>none
  | some false=>match stT T o.d (.tup []) with
   | some T=>fU cl pc yl H0 ids l T H nx
   | none=>none
  | some true=>match aZ (toT T) (lR H0 ids) o.i with
   | none=>none
   | some r=>frV r fun r=>match stT T o.d r with
    | some T=>fU cl pc yl H0 ids l T H nx
    | none=>none
 | (o,k + 1) :: l,T,H,nx=>match g2 (toT T) o.g with
  | none=>none
  | some false=>match stT T o.d (.tup []) with
   | some T=>fU cl pc yl H0 ids l T H nx
   | none=>none
  | some true=>if k=2 then (match qx (toT T) o.i with
      | none=>none
      | some r=>frV r fun r=>match stT T o.d r with
       | some T=>fU cl pc yl H0 ids l T H nx
       | none=>none)
   else match wv cl pc yl .text o.i T H nx with
    | none=>none
    | some (r,H,nx)=>match (match k with | 0=>mw H0 H ids | _=>true) with
     | true=>frV r fun r=>match stT T o.d r with
      | some T=>fU cl pc yl H0 ids l T H nx
      | none=>none
     | false=>none
theorem eR {P:Program} {L:LV} {cl:CL} {pc:PC} {yl:CL} (hk:CLok P L cl pc yl) {H0:HT} {ids:List Nat} {K:SP}:∀ {l:List (Op2 × Nat)} {T T':TT} {H H':HT} {nx nx':Nat},
    fU cl pc yl H0 ids l T H nx=some (T',H',nx')→K (toT T') (toH L H') nx'→ba P (lR H0 ids) l (toT T) (toH L H) nx K
 | [],_,_,_,_,_,_,h,hK=>by cases h; exact hK
 | (o,0) :: l,T,T',H,H',nx,nx',h,hK=>by
  simp only [fU] at h
  show aK (g2 (toT T) o.g) _ _
  cases hg:g2 (toT T) o.g with
  | none=>rw [hg] at h; cases h
  | some b =>
   rw [hg] at h
   cases b with
   | false =>
    simp only at h
    split at h
    ·rename_i T1 hs
     have:=eR hk h hK
     rw [iQ hs] at this
     exact this
    ·cases h
   | true =>
    simp only at h
    split at h
    ·cases h
    ·rename_i r hr
     simp only [jO] at h
     split at h
     ·rename_i T1 hs
      have:=eR hk h hK
      rw [iQ hs] at this
      show az (aZ (toT T) (lR H0 ids) o.i) _
      rw [hr]; exact this
     ·cases h
 | (o,k + 1) :: l,T,T',H,H',nx,nx',h,hK=>by
  simp only [fU] at h
  show aK (g2 (toT T) o.g) _ _
  cases hg:g2 (toT T) o.g with
  | none=>rw [hg] at h; cases h
  | some b =>
   rw [hg] at h
   cases b with
   | false =>
    simp only at h
    split at h
    ·rename_i T1 hs
     have:=eR hk h hK
     rw [iQ hs] at this
     exact this
    ·cases h
   | true =>
    simp only at h
    show if k=2 then _ else _
    split at h
    ·rename_i h2
     rw [if_pos h2]
     split at h
     ·cases h
     ·rename_i r hr
      simp only [jO] at h
      split at h
      ·rename_i T1 hs
       have:=eR hk h hK
       rw [iQ hs] at this
       rw [hr]; exact this
      ·cases h
    ·rename_i h2
     rw [if_neg h2]
     split at h
     ·cases h
     ·rename_i r H1 nx1 hr
      split at h
      ·rename_i hkeep
       simp only [jO] at h
       split at h
       ·rename_i T1 hs
        have:=eR hk h hK
        rw [iQ hs] at this
        refine sk (K:=fun r H' nx'=>(k=0→Sub (lR H0 ids) H')∧ba P (lR H0 ids) l (aG (toT T) o.d r) H' nx' K) hk hr ⟨fun hk0=>?_,this⟩
        subst hk0
        exact n3 hkeep
       ·cases h
      ·cases h
def rvs (T:Tm) (H:Hp):List RV→Option (List AV)
 | []=>some []
 | a :: l=>match rv T H a with
  | some x=>match rvs T H l with
   | some xs=>some (x :: xs)
   | none=>none
  | none=>none
def ya (T:Tm) (H:Hp):List RV→Option AV
 | []=>some (.tup [])
 | [a]=>rv T H a
 | [a,b]=>match rv T H a,rv T H b with
  | some x,some y=>some (.tup [x,y])
  | _,_=>none
 | [a,b,c]=>match rv T H a,rv T H b,rv T H c with
  | some x,some y,some z=>some (.tup [x,y,z])
  | _,_,_=>none
 | a :: b :: c :: d :: l=>(rvs T H (a :: b :: c :: d :: l)).map .tup
theorem pS {T:Tm} {S H:Hp} (hs:Sub S H):∀ {l:List RV} {xs:List AV} {K:List AV→Prop},rvs T S l=some xs→K xs→tT T H l K
 | [],xs,K,h,hK=>by cases h; exact hK
 | a :: l,xs,K,h,hK=>by
  simp only [rvs] at h
  split at h
  ·rename_i x hx
   split at h
   ·rename_i ys hy
    cases h
    show az (rv T H a) _
    rw [iJ hs hx]
    exact pS hs hy hK
   ·cases h
  ·cases h
theorem v7 {T:Tm} {S H:Hp} (hs:Sub S H) {l:List RV} {r:AV} {K:AV→Prop} (h:ya T S l=some r) (hK:K r):bf T H K l:=by
 rcases l with _ | ⟨a,_ | ⟨b,_ | ⟨c,_ | ⟨d,l⟩⟩⟩⟩ <;> simp only [ya] at h
 ·cases h; exact hK
 ·exact r_1 (iJ hs h) hK
 ·split at h
  ·rename_i x y hx hy
   cases h; exact r_2 (iJ hs hx) (iJ hs hy) hK
  ·cases h
 ·split at h
  ·rename_i x y z hx hy hz
   cases h; exact r_3 (iJ hs hx) (iJ hs hy) (iJ hs hz) hK
  ·cases h
 ·cases ho:rvs T S (a :: b :: c :: d :: l) with
  | none=>rw [ho] at h; cases h
  | some xs =>
   rw [ho] at h
   cases h
   exact pS hs ho hK
structure LFr where
 y:Nat
 ps:List Nat
 a:C2
 b:C2
 T:TT
abbrev RN:=List LFr→C2→TT→HT→Nat→Option (AEx × TT × HT × Nat)
def iq (code:FuncId→Option F2) (rn:RN) (fr:List LFr):CL:=fun g args H nx =>
 match code g with
 | none=>none
 | some F=>if args.length ≤ F.n then match uQ args with
     | none=>none
     | some T=>match rn fr F.body T H nx with
      | none=>none
      | some (e,T',H',nx')=>match e.ends with
       | true=>match ya (toT T') (bU H') F.res with
        | some r=>frV r fun r=>some (r,H',nx')
        | none=>none
       | false=>none
  else none
def jc (code:FuncId→Option F2) (rn:RN):PC:=fun g args H =>
 match bO (snapV aY SF) args with
 | some a=>match iq code rn [] g a .leaf 0 with
  | some (v,H',_)=>snapV (bU H') SF v
  | none=>none
 | none=>match bO (snapV (bU H) SF) args with
  | some a=>match iq code rn [] g a .leaf 0 with
   | some (v,H',_)=>match snapV (bU H') SF v with
    | some r=>match r.sca with
     | true=>some r
     | false=>ft (bU H') SF v
    | none=>none
   | none=>none
  | none=>none
def gf (H:Hp):Nat→List AV→List Nat→List Nat
 | 0,_,acc=>acc
 | _ + 1,[],acc=>acc
 | k + 1,x :: l,acc=>match x with
  | .msl b _ _ _ _=>match acc.elem b with
   | true=>gf H k l acc
   | false=>gf H k ((H b).getD [] ++ l) (b :: acc)
  | .ptr b _ _=>match acc.elem b with
   | true=>gf H k l acc
   | false=>gf H k ((H b).getD [] ++ l) (b :: acc)
  | .sl _ cs=>gf H k (cs ++ l) acc
  | .iptr cs _=>gf H k (cs ++ l) acc
  | .func _ cs=>gf H k (cs ++ l) acc
  | .agg cs=>gf H k (cs ++ l) acc
  | .tup cs=>gf H k (cs ++ l) acc
  | _=>gf H k l acc
def RF2:Nat:=100000
def iB:List Nat→HT→Option HT
 | [],H=>some H
 | b :: l,H=>match PT.set LIM H b none with
  | some H=>iB l H
  | none=>none
def uZ (code:FuncId→Option F2) (rn:RN):CL:=fun g args H nx =>
 match bO (snapV aY SF) args with
 | some a=>match iq code rn [] g a .leaf 0 with
  | some (v,H',_)=>match snapV (bU H') SF v with
   | some r=>some (r,H,nx)
   | none=>none
  | none=>none
 | none=>match bO (snapV (bU H) SF) args with
  | some a=>match iq code rn [] g a .leaf 0 with
   | some (v,H',_)=>match snapV (bU H') SF v with
    | some r=>match r.sca with
     | true=>some (r,H,nx)
     | false=>match ft (bU H') SF v with
      | some r=>some (r,H,nx)
      | none=>match iB (gf (bU H) RF2 args []) H with
       | some H2=>match bO (snapV (fun b=>match (bU H2 b).isSome with | true=>none | false=>bU H b) SF) args with
        | some a2=>match iq code rn [] g a2 .leaf 0 with
         | some (v,H',_)=>match snapV (bU H') SF v with
          | some r=>some (r,H2,nx)
          | none=>none
         | none=>none
        | none=>none
       | none=>none
    | none=>none
   | none=>none
  | none=>none
structure CT where
 c:FuncId→List AV→Nat→Option AV
 q:FuncId→List AV→Option AV
def zj:CT:=⟨fun _ _ _=>none,fun _ _=>none⟩
structure CTok (P:Program) (ct:CT):Prop where
 c:∀ (g:FuncId) (args:List AV) (nx:Nat) (r:AV),ct.c g args nx=some r→∀ (H:Hp) (R:AV→Hp→Nat→Prop),R r (ag H nx []) (nx + 1)→Fn P g args H nx R
 q:∀ (g:FuncId) (args:List AV) (r:AV),ct.q g args=some r→Pure P g args r
theorem wg {P:Program}:CTok P zj:=⟨fun _ _ _ _ h=>(by cases h),fun _ _ _ h=>(by cases h)⟩
def rj (q:FuncId→List AV→Option AV) (g:FuncId) (args:List AV) (H:HT) (nx:Nat):Option (AV × HT × Nat) :=
 match bO (snapV aY SF) args with
 | some a=>match q g a with
  | some r=>some (r,H,nx)
  | none=>none
 | none=>match bO (snapV (bU H) SF) args with
  | some a=>match q g a with
   | some r=>match r.sca with
    | true=>some (r,H,nx)
    | false=>match iB (gf (bU H) RF2 args []) H with
     | some H2=>match bO (snapV (fun b=>match (bU H2 b).isSome with | true=>none | false=>bU H b) SF) args with
      | some a2=>match q g a2 with
       | some r2=>some (r2,H2,nx)
       | none=>none
      | none=>none
     | none=>none
   | none=>none
  | none=>none
def ky (code:FuncId→Option F2) (pf:FuncId→Bool) (ct:CT) (rn:RN) (fr:List LFr):CL:=fun g args H nx =>
 match ct.c g args nx with
 | some r=>match PT.set LIM H nx (some (.cells [])) with
  | some H2=>some (r,H2,nx + 1)
  | none=>none
 | none=>match pf g with
  | true=>match rj ct.q g args H nx with
   | some r=>some r
   | none=>uZ code rn g args H nx
  | false=>iq code rn fr g args H nx
def lG:List LFr→Nat→Option (LFr × List LFr)
 | [],_=>none
 | F :: l,y=>match Nat.beq F.y y with
  | true=>some (F,l)
  | false=>lG l y
def stL (T:TT):List Nat→List AV→Option TT
 | t :: ts,x :: xs=>match PT.set LIM T t (some x) with
  | some T=>stL T ts xs
  | none=>none
 | _,_=>some T
def uF:AEx→Bool
 | .normal=>true
 | _=>false
def pZ (rn:RN) (fr:List LFr):CL:=fun y args H nx =>
 match lG fr y with
 | none=>none
 | some (F,l)=>match H.get y with
  | some (.mark none)=>match Nat.beq args.length F.ps.length with
   | true=>match stL F.T F.ps args with
    | none=>none
    | some T1=>match rn l F.a T1 H nx with
     | some (.normal,T2,H2,nx2)=>match H2.get y with
      | some (.mark none)=>match PT.set LIM H2 y none with
       | none=>none
       | some H3=>match rn l F.b T2 H3 nx2 with
        | none=>none
        | some (e,T4,H4,nx4)=>match e with
         | .normal=>match PT.set LIM H4 y (some (.mark none)) with
          | some H5=>some (.bool true,H5,nx4)
          | none=>none
         | e=>match PT.set LIM H4 y (some (.mark (some e))) with
          | some H5=>some (.bool false,H5,nx4)
          | none=>none
      | _=>none
     | _=>none
   | false=>none
  | _=>none
def zG (m nx:Nat):DM:=match m with
 | 0=>.text
 | 1=>.draw
 | _=>.fresh nx
def sx (m nx:Nat):DM:=match m with
 | 1=>.draw
 | _=>.fresh nx
def qn (x:Option (TT × HT × Nat)):Option (AEx × TT × HT × Nat):=match x with
 | some (T,H,nx)=>some (.normal,T,H,nx)
 | none=>none
def run (code:FuncId→Option F2) (pf:FuncId→Bool) (ct:CT):Nat→RN
 | 0,_,_,_,_,_=>none
 | n + 1,fr,c,T,H,nx=>match c with
  | .skip=>some (.normal,T,H,nx)
  | .exit i=>some (.exit i,T,H,nx)
  | .ret=>some (.ret,T,H,nx)
  | .ops m l=>qn (oC (ky code pf ct (run code pf ct n) fr) (jc code (run code pf ct n)) (pZ (run code pf ct n) fr) (zG m nx) l T H nx)
  | .mix m l C=>match Nat.beq m 9 with
   | true=>qn (oC (ky code pf ct (run code pf ct n) fr) (jc code (run code pf ct n)) (pZ (run code pf ct n) fr) .text (C.map fun k=>l.getD k ⟨none,none,.dead⟩) T H nx)
   | false=>match oC (ky code pf ct (run code pf ct n) fr) (jc code (run code pf ct n)) (pZ (run code pf ct n) fr) (sx m nx) l T H nx with
    | some x=>qn (some x)
    | none=>qn (oC (ky code pf ct (run code pf ct n) fr) (jc code (run code pf ct n)) (pZ (run code pf ct n) fr) .text (C.map fun k=>l.getD k ⟨none,none,.dead⟩) T H nx)
  | .mixS m l C=>match (match Nat.beq m 9 with
      | true=>none
      | false=>oC (ky code pf ct (run code pf ct n) fr) (jc code (run code pf ct n)) (pZ (run code pf ct n) fr) (sx m nx) l T H nx) with
   | some x=>qn (some x)
   | none=>match mw H H (iM (C.map fun k=>(l.getD k.1 ⟨none,none,.dead⟩,k.2)) T H []) with
    | true=>qn (fU (ky code pf ct (run code pf ct n) fr) (jc code (run code pf ct n)) (pZ (run code pf ct n) fr) H (iM (C.map fun k=>(l.getD k.1 ⟨none,none,.dead⟩,k.2)) T H []) (C.map fun k=>(l.getD k.1 ⟨none,none,.dead⟩,k.2)) T H nx)
    | false=>none
  | .seq a b=>match run code pf ct n fr a T H nx with
   | some (.normal,T,H,nx)=>run code pf ct n fr b T H nx
   | r=>r
  | .cond c a b=>match ov (toT T) c with
   | .bool true=>run code pf ct n fr a T H nx
   | .bool false=>run code pf ct n fr b T H nx
   | _=>none
  | .block id b=>match run code pf ct n fr b T H nx with
   | some (e,T,H,nx)=>some (gH id e,T,H,nx)
   | none=>none
  | .loop b=>match run code pf ct n fr b T H nx with
   | some (.normal,T,H,nx)=>run code pf ct n fr (.loop b) T H nx
   | r=>r
  | .rangeF g ps a b=>match ov (toT T) g with
   | .func f caps=>match lG fr nx with
    | some _=>none
    | none=>match PT.set LIM H nx (some (.mark none)) with
     | none=>none
     | some H1=>match iq code (run code pf ct n) (⟨nx,ps,a,b,T⟩ :: fr) f (.yld nx :: caps) H1 (nx + 1) with
      | none=>none
      | some (_,H2,nx2)=>match H2.get nx with
       | some (.mark st)=>match PT.set LIM H2 nx none with
        | none=>none
        | some H3=>match st with
         | none=>some (.normal,T,H3,nx2)
         | some e=>match uF e with
          | true=>none
          | false=>some (e,T,H3,nx2)
       | _=>none
   | _=>none
def gB (P:Program) (code:FuncId→Option F2):Prop:=∀ {f:FuncId} {F:F2},code f=some F→Is P f F
def c8 (P:Program) (L:LV):List LFr→Prop
 | []=>True
 | F :: fr => (∀ (args : List AV) (H' : Hp) (nx' : Nat) (K' : AV → Hp → Nat → Prop), H' F.y = some (L F.y none) → args.length = F.ps.length →
       aE P F.a (fv (toT F.T) F.ps args) H' nx' (fun e T2 H2 nx2=>aH e (H2 F.y=some (L F.y none)∧aE P F.b T2 (bI H2 F.y) nx2 fun e T3 H3 nx3=>aH e (K' (.bool true) (ag H3 F.y (L F.y none)) nx3) (K' (.bool false) (ag H3 F.y (L F.y (some e))) nx3)) False) →
       Yl P F.y args H' nx' K')∧c8 P L fr
def wX:List Nat→FuncId→Bool
 | [],_=>false
 | k :: l,f=>match Nat.beq k f with
  | true=>true
  | false=>wX l f
theorem qz {P:Program} {L:LV}:∀ {fr:List LFr} {y:Nat} {F:LFr} {l:List LFr},c8 P L fr→lG fr y=some (F,l)→F.y=y∧c8 P L (F :: l)
 | [],_,_,_,_,h=>by cases h
 | G :: fr,y,F,l,hf,h=>by
  simp only [lG] at h
  split at h
  ·rename_i e
   cases h
   exact ⟨Nat.eq_of_beq_eq_true e,hf⟩
  ·exact qz hf.2 h
theorem mE {P:Program} {L L':LV} {y:Nat} (hL:∀ b e,b ≠ y→L' b e=L b e):∀ {fr:List LFr},c8 P L fr→lG fr y=none→c8 P L' fr
 | [],_,_=>trivial
 | G :: fr,hf,h=>by
  simp only [lG] at h
  split at h
  ·cases h
  ·rename_i e
   have hne:G.y ≠ y:=fun he=>by rw [he,Nat.beq_refl] at e; cases e
   refine ⟨?_,mE hL hf.2 h⟩
   have h1:∀ e,L' G.y e=L G.y e:=fun e=>hL _ _ hne
   simp only [h1]
   exact hf.1
theorem uA:∀ {ts:List Nat} {xs:List AV} {T T':TT},stL T ts xs=some T'→toT T'=fv (toT T) ts xs
 | [],_,_,_,h=>by cases h; rfl
 | _ :: _,[],_,_,h=>by cases h; rfl
 | t :: ts,x :: xs,T,T',h=>by
  simp only [stL] at h
  split at h
  ·rename_i T1 h1
   rw [uA h,oW h1]
   rfl
  ·cases h
structure RunOk (P:Program) (rn:RN):Prop where
 ok:∀ {L:LV} {fr:List LFr} {c:C2} {T T':TT} {H H':HT} {nx nx':Nat} {e:AEx} {K:CP},c8 P L fr→rn fr c T H nx=some (e,T',H',nx')→K e (toT T') (toH L H') nx'→aE P c (toT T) (toH L H) nx K
theorem db {P:Program} {code:FuncId→Option F2} (hc:gB P code) {rn:RN} (hr:RunOk P rn) {L:LV} {fr:List LFr} (hf:c8 P L fr) {g:FuncId} {args:List AV} {H H':HT} {nx nx':Nat} {r:AV}
    (h:iq code rn fr g args H nx=some (r,H',nx')):∃ F,Is P g F∧args.length ≤ F.n∧∀ K:AV→Hp→Nat→Prop,K r (toH L H') nx'→aE P F.body (T0 args) (toH L H) nx fun e T H nx=>aJ e.ends (bf T H (fun x=>K x H nx) F.res):=by
 unfold iq at h
 split at h
 ·cases h
 ·rename_i F hF
  split at h
  ·rename_i hl
   split at h
   ·cases h
   ·rename_i T hT
    split at h
    ·cases h
    ·rename_i e T' H1 nx1 hrun
     split at h
     ·rename_i he
      split at h
      ·rename_i r1 hres
       simp only [jO] at h
       cases h
       refine ⟨F,hc hF,hl,fun K hK=>?_⟩
       rw [← sQ hT]
       exact hr.ok hf hrun ⟨he,v7 bB hres hK⟩
      ·cases h
     ·cases h
  ·cases h
def L0:LV:=fun _ _=>[]
theorem uC {P:Program} {code:FuncId→Option F2} (hm:P.follows .mixedOrders=true) (hc:gB P code) {rn:RN} (hr:RunOk P rn) {L:LV} {g:FuncId} {args:List AV} {H:HT} {r:AV} (h:jc code rn g args H=some r):gQ P g args (toH L H) r:=by
    have hf0:c8 P L0 []:=trivial
    have n0:Sub aY aY:=fun _ _ h=>h
    unfold jc at h
    split at h
    ·rename_i a ha
     split at h
     ·rename_i v H' nx' hcall
      obtain ⟨F,h1,h2,h3⟩:=db hc hr hf0 hcall
      have hp:Pure P g a r:=Pure.of_c2 hm h1 h2 (h3 (fun x H _=>Snap H x r) (bZ bB _ h))
      obtain ⟨o1,o2⟩:=bM ha
      exact hp.callOk (.inl ⟨o1,fun i x y hx hy=>bZ n0 _ (o2 i x y hx hy)⟩)
     ·cases h
    ·split at h
     ·rename_i a ha
      obtain ⟨o1,o2⟩:=bM ha
      have hs:aD (toH L H) args a:=⟨o1,fun i x y hx hy=>bZ bB _ (o2 i x y hx hy)⟩
      split at h
      ·rename_i v H' nx' hcall
       obtain ⟨F,h1,h2,h3⟩:=db hc hr hf0 hcall
       split at h
       ·rename_i r1 hr1
        split at h
        ·rename_i hsc
         cases h
         have hp:Pure P g a r:=Pure.of_c2 hm h1 h2 (h3 (fun x H _=>Snap H x r) (bZ bB _ hr1))
         exact hp.callOk (.inr ⟨hs,hsc⟩)
        ·have hp:fl P g a r:=fl.of_c2 hm h1 h2 (h3 (fun x H _=>SnapF H x r) (jX bB _ h))
         exact hp.callOk hs
       ·cases h
      ·cases h
     ·cases h
theorem iw:∀ {l:List Nat} {H H2:HT},iB l H=some H2→∀ {b:Nat} {c:BC},H2.get b=some c→H.get b=some c
 | [],_,_,h,_,_,hb=>by cases h; exact hb
 | b :: l,H,H2,h,b',c,hb=>by
  simp only [iB] at h
  split at h
  ·rename_i H1 h1
   have:=iw h hb
   rw [PT.get_set _ h1] at this
   split at this
   ·cases this
   ·exact this
  ·cases h
theorem fH {L:LV}:∀ {l:List Nat} {H H2:HT},iB l H=some H2→∀ b cs,toH L H2 b=some cs→toH L H b=some cs
 | [],_,_,h=>by cases h; exact fun _ _ h=>h
 | b :: l,H,H2,h=>by
  simp only [iB] at h
  split at h
  ·rename_i H1 h1
   intro b' cs hb
   have:=fH h b' cs hb
   rw [oo h1] at this
   exact (g9 this).2
  ·cases h
theorem vt {P:Program} {code:FuncId→Option F2} (hm:P.follows .mixedOrders=true) (hc:gB P code) {rn:RN} (hr:RunOk P rn) {L:LV} {g:FuncId} {args:List AV} {H H2:HT} {nx nx':Nat} {r:AV} {R:AV→Hp→Nat→Prop} (h:uZ code rn g args H nx=some (r,H2,nx')) (hR:R r (toH L H2) nx'):Fn P g args (toH L H) nx R:=by
 have hf0:c8 P L0 []:=trivial
 have n0:Sub aY aY:=fun _ _ h=>h
 unfold uZ at h
 split at h
 ·rename_i a ha
  split at h
  ·rename_i v H' nx1 hcall
   split at h
   ·rename_i r1 hr1
    cases h
    obtain ⟨F,h1,h2,h3⟩:=db hc hr hf0 hcall
    have hp:Pure P g a r:=Pure.of_c2 hm h1 h2 (h3 (fun x H _=>Snap H x r) (bZ bB _ hr1))
    obtain ⟨o1,o2⟩:=bM ha
    exact Fn.of_pure hp (.inl ⟨o1,fun i x y hx hy=>bZ n0 _ (o2 i x y hx hy)⟩) hR
   ·cases h
  ·cases h
 ·split at h
  ·rename_i a ha
   obtain ⟨o1,o2⟩:=bM ha
   have hs:aD (toH L H) args a:=⟨o1,fun i x y hx hy=>bZ bB _ (o2 i x y hx hy)⟩
   split at h
   ·rename_i v H' nx1 hcall
    obtain ⟨F,h1,h2,h3⟩:=db hc hr hf0 hcall
    split at h
    ·rename_i r1 hr1
     split at h
     ·rename_i hsc
      cases h
      have hp:Pure P g a r:=Pure.of_c2 hm h1 h2 (h3 (fun x H _=>Snap H x r) (bZ bB _ hr1))
      exact Fn.of_pure hp (.inr ⟨hs,hsc⟩) hR
     ·split at h
      ·rename_i r2 hr2
       cases h
       have hp:fl P g a r:=fl.of_c2 hm h1 h2 (h3 (fun x H _=>SnapF H x r) (jX bB _ hr2))
       exact Fn.of_callOk (hp.callOk hs) hR
      ·split at h
       ·rename_i H3 bI
        split at h
        ·rename_i a2 ha2
         obtain ⟨q1,q2⟩:=bM ha2
         split at h
         ·rename_i v2 H4 nx4 hcall2
          obtain ⟨F2,k1,k2,k3⟩:=db hc hr hf0 hcall2
          split at h
          ·rename_i r2 hr2
           cases h
           have hp:Pure P g a2 r:=Pure.of_c2 hm k1 k2 (k3 (fun x H _=>Snap H x r) (bZ bB _ hr2))
           have hsubF:Sub (fun b=>match (bU H2 b).isSome with | true=>none | false=>bU H b) (fun b=>match (bU H2 b).isSome with | true=>none | false=>bU H b):=fun _ _ h=>h
           refine Fn.of_pureZ (Hf:=fun b=>match (bU H2 b).isSome with | true=>none | false=>bU H b) hp (fun b cs hb=>?_) (fun b cs hb=>⟨fH bI b cs hb,?_⟩) ⟨q1,fun i x y hx hy=>bZ hsubF _ (q2 i x y hx hy)⟩ hR
           ·split at hb
            ·cases hb
            ·exact bB b cs hb
           ·split
            ·rfl
            ·rename_i hn
             have:=fH bI b cs hb
             unfold bU at hn ⊢
             unfold toH at hb this
             cases hg:H2.get b with
             | none=>rw [hg] at hb; cases hb
             | some c =>
              cases c with
              | cells cs'=>rw [hg] at hn; cases hn
              | mark e =>
               cases hg2:H.get b with
               | none=>rfl
               | some c2=>cases c2 with
                | mark e2=>rfl
                | cells cs2=>exact absurd (iw bI hg) (by rw [hg2]; intro h; cases h)
          ·cases h
         ·cases h
        ·cases h
       ·cases h
    ·cases h
   ·cases h
  ·cases h
theorem tw {P:Program} {q:FuncId→List AV→Option AV} (hq:∀ (g:FuncId) (args:List AV) (r:AV),q g args=some r→Pure P g args r) {L:LV} {g:FuncId} {args:List AV} {H H2:HT} {nx nx':Nat} {r:AV} {R:AV→Hp→Nat→Prop} (h:rj q g args H nx=some (r,H2,nx')) (hR:R r (toH L H2) nx'):Fn P g args (toH L H) nx R:=by
 have n0:Sub aY aY:=fun _ _ h=>h
 unfold rj at h
 split at h
 ·rename_i a ha
  split at h
  ·rename_i r1 hr1
   cases h
   obtain ⟨o1,o2⟩:=bM ha
   exact Fn.of_pure (hq _ _ _ hr1) (.inl ⟨o1,fun i x y hx hy=>bZ n0 _ (o2 i x y hx hy)⟩) hR
  ·cases h
 ·split at h
  ·rename_i a ha
   obtain ⟨o1,o2⟩:=bM ha
   have hs:aD (toH L H) args a:=⟨o1,fun i x y hx hy=>bZ bB _ (o2 i x y hx hy)⟩
   split at h
   ·rename_i r1 hr1
    split at h
    ·rename_i hsc
     cases h
     exact Fn.of_pure (hq _ _ _ hr1) (.inr ⟨hs,hsc⟩) hR
    ·split at h
     ·rename_i H3 bI
      split at h
      ·rename_i a2 ha2
       obtain ⟨q1,q2⟩:=bM ha2
       split at h
       ·rename_i r2 hr2
        cases h
        have hsubF:Sub (fun b=>match (bU H2 b).isSome with | true=>none | false=>bU H b) (fun b=>match (bU H2 b).isSome with | true=>none | false=>bU H b):=fun _ _ h=>h
        refine Fn.of_pureZ (Hf:=fun b=>match (bU H2 b).isSome with | true=>none | false=>bU H b) (hq _ _ _ hr2) (fun b cs hb=>?_) (fun b cs hb=>⟨fH bI b cs hb,?_⟩) ⟨q1,fun i x y hx hy=>bZ hsubF _ (q2 i x y hx hy)⟩ hR
        ·split at hb
         ·cases hb
         ·exact bB b cs hb
        ·split
         ·rfl
         ·rename_i hn
          have:=fH bI b cs hb
          unfold bU at hn ⊢
          unfold toH at hb this
          cases hg:H2.get b with
          | none=>rw [hg] at hb; cases hb
          | some c =>
           cases c with
           | cells cs'=>rw [hg] at hn; cases hn
           | mark e =>
            cases hg2:H.get b with
            | none=>rfl
            | some c2=>cases c2 with
             | mark e2=>rfl
             | cells cs2=>exact absurd (iw bI hg) (by rw [hg2]; intro h; cases h)
       ·cases h
      ·cases h
     ·cases h
   ·cases h
  ·cases h
theorem ux {P:Program} {code:FuncId→Option F2} {pf:FuncId→Bool} {ct:CT} (hm:P.follows .mixedOrders=true) (hc:gB P code) (hct:CTok P ct) {rn:RN} (hr:RunOk P rn) {L:LV} {fr:List LFr} (hf:c8 P L fr):CLok P L (ky code pf ct rn fr) (jc code rn) (pZ rn fr) where
 cl:=fun {g args H H' nx nx' r R} h hR=>by
  unfold ky at h
  split at h
  ·rename_i hx
   split at h
   ·rename_i hset
    cases h
    rw [d9 hset] at hR
    exact hct.c _ _ _ _ hx _ _ hR
   ·cases h
  split at h
  ·split at h
   ·rename_i hq
    cases h
    exact tw hct.q hq hR
   ·exact vt hm hc hr h hR
  ·obtain ⟨F,h1,h2,h3⟩:=db hc hr hf h
   exact Fn.of_c2 hm h1 h2 (h3 _ hR)
 pc:=fun {g args H r} h=>uC hm hc hr h
 yl:=fun {y args H H' nx nx' r R} h hR=>by
  unfold pZ at h
  split at h
  ·cases h
  ·rename_i F l hF
   obtain ⟨rfl,hfr⟩:=qz hf hF
   obtain ⟨hy,hl⟩:=hfr
   split at h
   ·rename_i hg
    split at h
    ·rename_i hlen
     split at h
     ·cases h
     ·rename_i T1 hT1
      split at h
      ·rename_i T2 H2 nx2 hrun
       split at h
       ·rename_i hg2
        split at h
        ·cases h
        ·rename_i H3 hdel3
         split at h
         ·cases h
         ·rename_i e T4 H4 nx4 hrun2
          refine hy args (toH L H) nx R (by simp only [toH,hg,bcL]) (Nat.eq_of_beq_eq_true hlen) ?_
          rw [← uA hT1]
          refine hr.ok (K:=fun e T2 H2 nx2=>aH e (H2 F.y=some (L F.y none)∧aE P F.b T2 (bI H2 F.y) nx2 fun e T3 H3 nx3=>aH e (R (.bool true) (ag H3 F.y (L F.y none)) nx3) (R (.bool false) (ag H3 F.y (L F.y (some e))) nx3)) False) hl hrun ⟨by simp only [toH,hg2,bcL],?_⟩
          rw [← oo hdel3]
          refine hr.ok hl hrun2 ?_
          cases e with
          | normal =>
           simp only at h
           split at h
           ·rename_i H5 h5
            cases h
            rw [i9 h5] at hR
            exact hR
           ·cases h
          | exit i =>
           simp only at h
           split at h
           ·rename_i H5 h5
            cases h
            rw [i9 h5] at hR
            exact hR
           ·cases h
          | ret =>
           simp only at h
           split at h
           ·rename_i H5 h5
            cases h
            rw [i9 h5] at hR
            exact hR
           ·cases h
       ·cases h
      ·cases h
    ·cases h
   ·cases h
theorem gY {x:Option (TT × HT × Nat)} {e:AEx} {T:TT} {H:HT} {nx:Nat} (h:qn x=some (e,T,H,nx)):x=some (T,H,nx)∧e=.normal:=by
 unfold qn at h
 split at h
 ·cases h; exact ⟨rfl,rfl⟩
 ·cases h
theorem uv {P:Program} {code:FuncId→Option F2} {pf:FuncId→Bool} {ct:CT} (hm:P.follows .mixedOrders=true) (hc:gB P code) (hct:CTok P ct):∀ n,RunOk P (run code pf ct n)
 | 0=>⟨fun _ h=>by cases h⟩
 | n + 1=>by
  refine ⟨?_⟩
  intro L fr c T T' H H' nx nx' e K hf h hK
  have ih:RunOk P (run code pf ct n):=uv hm hc hct n
  have hk:=ux (pf:=pf) (ct:=ct) hm hc hct ih hf
  cases c with
  | skip=>cases h; exact hK
  | exit i=>cases h; exact hK
  | ret=>cases h; exact hK
  | ops m l =>
   obtain ⟨h1,rfl⟩:=gY h
   have:=f4 hk (K:=K .normal) h1 hK
   refine ⟨_,_,_,_,Gh.refl _ _ _,?_⟩
   unfold zG at this
   exact this
  | mix m l C =>
   simp only [run] at h
   split at h
   ·obtain ⟨h1,rfl⟩:=gY h
    exact .inr ⟨_,_,_,_,Gh.refl _ _ _,f4 hk (K:=K .normal) h1 hK⟩
   ·rename_i hb
    split at h
    ·rename_i x hx
     obtain ⟨h1,rfl⟩:=gY h
     cases h1
     have:=f4 hk (K:=K .normal) hx hK
     refine .inl ⟨fun e=>?_,_,_,_,_,Gh.refl _ _ _,?_⟩
     ·subst e; cases hb
     ·unfold sx at this; exact this
    ·obtain ⟨h1,rfl⟩:=gY h
     exact .inr ⟨_,_,_,_,Gh.refl _ _ _,f4 hk (K:=K .normal) h1 hK⟩
  | mixS m l C =>
   simp only [run] at h
   split at h
   ·rename_i x hx
    split at hx
    ·cases hx
    ·rename_i hb
     obtain ⟨h1,rfl⟩:=gY h
     cases h1
     have:=f4 hk (K:=K .normal) hx hK
     refine .inl ⟨fun e=>?_,_,_,_,_,Gh.refl _ _ _,?_⟩
     ·subst e; cases hb
     ·unfold sx at this; exact this
   ·split at h
    ·rename_i hkeep
     obtain ⟨h1,rfl⟩:=gY h
     exact .inr ⟨_,_,_,_,_,Gh.refl _ _ _,n3 hkeep,eR hk (K:=K .normal) h1 hK⟩
    ·cases h
  | seq a b =>
   simp only [run] at h
   split at h
   ·rename_i T1 H1 nx1 h1
    exact cJ (ih.ok (K:=fun e T H nx=>aH e (aE P b T H nx K) (K e T H nx)) hf h1 (ih.ok hf h hK))
   ·rename_i hne
    refine cJ (ih.ok (K:=fun e T H nx=>aH e (aE P b T H nx K) (K e T H nx)) hf h ?_)
    cases e with
    | normal=>exact absurd h (hne _ _ _)
    | exit i=>exact hK
    | ret=>exact hK
  | cond c a b =>
   simp only [run] at h
   split at h
   ·rename_i hv
    exact oU hv (ih.ok hf h hK)
   ·rename_i hv
    exact o0 hv (ih.ok hf h hK)
   ·cases h
  | block id b =>
   simp only [run] at h
   split at h
   ·rename_i e1 T1 H1 nx1 h1
    cases h
    exact dF (ih.ok (K:=fun e T H nx=>K (gH id e) T H nx) hf h1 hK)
   ·cases h
  | loop b =>
   simp only [run] at h
   split at h
   ·rename_i T1 H1 nx1 h1
    obtain ⟨k,hl⟩:=ih.ok hf h hK
    exact ⟨k + 1,_,_,_,_,Gh.refl _ _ _,ih.ok (K:=fun e T H nx=>aH e (ka (aE P b) K k T H nx) (K e T H nx)) hf h1 hl⟩
   ·rename_i hne
    refine ⟨1,_,_,_,_,Gh.refl _ _ _,ih.ok (K:=fun e T H nx=>aH e (ka (aE P b) K 0 T H nx) (K e T H nx)) hf h ?_⟩
    cases e with
    | normal=>exact absurd h (hne _ _ _)
    | exit i=>exact hK
    | ret=>exact hK
  | rangeF g ps a b =>
   simp only [run] at h
   split at h
   ·rename_i f caps hg
    split at h
    ·cases h
    ·rename_i hnone
     split at h
     ·cases h
     ·rename_i H1 hset
      split at h
      ·cases h
      ·rename_i v H2 nx2 hcall
       split at h
       ·rename_i st hst
        split at h
        ·cases h
        ·rename_i H3 hdel3
         refine vO hg fun c0 cj hy=>?_
         let L':LV:=fun b e=>if b=nx then (match e with | none=>[c0] | some e=>[cj e]) else L b e
         have hL:∀ b e,b ≠ nx→L' b e=L b e:=fun b e hb=>if_neg hb
         have hn:L' nx none=[c0]:=if_pos rfl
         have hs:∀ e,L' nx (some e)=[cj e]:=fun e=>if_pos rfl
         have hf':c8 P L' (⟨nx,ps,a,b,T⟩ :: fr):=by
          refine ⟨?_,mE hL hf hnone⟩
          intro args H' nx' K' h1 h2 h3
          simp only [hn,hs] at h1 h3
          exact hy args H' nx' K' h1 h2 h3
         have e1:ag (toH L H) nx [c0]=toH L' H1:=by
          rw [i9 hset,hn]
          funext m
          simp only [ag]
          split
          ·rfl
          ·rename_i hm
           simp only [toH]
           cases H.get m with
           | none=>rfl
           | some x=>cases x with
            | cells cs=>rfl
            | mark e=>simp only [bcL,hL m e hm]
         have e2:bI (toH L' H2) nx=toH L H3:=by
          rw [oo hdel3]
          funext m
          simp only [bI]
          split
          ·rfl
          ·rename_i hm
           simp only [toH]
           cases H2.get m with
           | none=>rfl
           | some x=>cases x with
            | cells cs=>rfl
            | mark e=>simp only [bcL,hL m e hm]
         rw [e1]
         obtain ⟨F,k1,k2,k3⟩:=db hc ih hf' hcall
         refine Fn.of_c2 hm k1 k2 (k3 _ ?_)
         cases st with
         | none =>
          cases h
          left
          refine ⟨by simp only [toH,hst,bcL,hn],?_⟩
          rw [e2]; exact hK
         | some e1' =>
          simp only at h
          split at h
          ·cases h
          ·rename_i hnn
           cases h
           right
           refine ⟨e,(fun hh=>by rw [hh] at hnn; cases hnn),by simp only [toH,hst,bcL,hs],?_⟩
           rw [e2]; exact hK
       ·cases h
   ·cases h
def xG (code:FuncId→Option F2) (pf:FuncId→Bool) (ct:CT) (n:Nat) (f:FuncId) (args:List AV) (good:AV→Bool):Bool :=
 match iq code (run code pf ct n) [] f args .leaf 0 with
 | some (v,H',_)=>match snapV (bU H') SF v with
  | some r=>good r
  | none=>false
 | none=>false
theorem Pure.of_runC {P:Program} {code:FuncId→Option F2} {pf:FuncId→Bool} {ct:CT} (hm:P.follows .mixedOrders=true) (hc:gB P code) (hct:CTok P ct) {n:Nat} {f:FuncId} {args:List AV} {good:AV→Bool} {r:AV} (h:xG code pf ct n f args good=true) (hg:∀ x,good x=true→x=r):Pure P f args r:=by
 unfold xG at h
 split at h
 ·rename_i v H' nx' hcall
  split at h
  ·rename_i r1 hr1
   have:=hg _ h
   subst this
   obtain ⟨F,h1,h2,h3⟩:=db hc (uv hm hc hct n) (L:=L0) (fr:=[]) trivial hcall
   exact Pure.of_c2 hm h1 h2 (h3 (fun x H _=>Snap H x r1) (bZ bB _ hr1))
  ·cases h
 ·cases h
theorem Pure.of_run {P:Program} {code:FuncId→Option F2} {pf:FuncId→Bool} (hm:P.follows .mixedOrders=true) (hc:gB P code) {n:Nat} {f:FuncId} {args:List AV} {good:AV→Bool} {r:AV} (h:xG code pf zj n f args good=true) (hg:∀ x,good x=true→x=r):Pure P f args r :=
 Pure.of_runC hm hc wg h hg
def isTrue:AV→Bool | .bool true=>true | _=>false
theorem sR:∀ x,isTrue x=true→x=.bool true:=by
 intro x h
 cases x <;> try (cases h; done)
 rename_i b
 cases b
 ·cases h
 ·rfl
def lookup:List (Nat × F2)→FuncId→Option F2
 | [],_=>none
 | (k,F) :: l,f=>match Nat.beq k f with
  | true=>some F
  | false=>lookup l f
theorem sY {P:Program}:gB P (lookup []):=fun h=>by cases h
theorem al {P:Program} {k:Nat} {F:F2} {l:List (Nat × F2)} (h:Is P k F) (hs:gB P (lookup l)):gB P (lookup ((k,F) :: l)):=fun {f F'} hf=>by
 simp only [lookup] at hf
 split at hf
 ·rename_i e
  cases hf
  rw [Nat.eq_of_beq_eq_true e] at h
  exact h
 ·exact hs hf
end Go.Abs
namespace Go.Abs
open Go Go.RowKit
def nc (W:World):Nat→Prop:=fun b=>b < W.heap.size
theorem tG {W:World} {a:Addr} {v:Value} (h:W.cell? a=some v):nc W a.block∧a.spot=none:=by
 unfold World.cell? at h
 unfold nc
 cases hb:W.heap[a.block]? with
 | none=>simp [hb] at h
 | some o =>
  refine ⟨(Array.getElem?_eq_some_iff.1 hb).1,?_⟩
  cases hs:a.spot with
  | none=>rfl
  | some s=>cases o <;> simp [hb,hs] at h
section
variable {H:Type} {enc:TypeId × Value→H} {P:Program} {W:World}
def c6 (enc:TypeId × Value→H) (P:Program) (W:World) (t:TypeId) {α:Type} (f:α→AV) (good:α→Prop):Prop :=
 ∀ (n:Nat) (cs:List Value) (x:DataW H × List MemPlace),DataW.trod enc P W 0 (fun _=>true) true n t cs=some x→(∀ k ∈ x.1.weights P t,k ≤ reachBytes)→∃ a:α,good a∧bS (E0 (nc W)) W (f a).cells cs
theorem c6.mono {t:TypeId} {α:Type} {f:α→AV} {good good':α→Prop} (h:c6 enc P W t f good) (hg:∀ a,good a→good' a):c6 enc P W t f good' :=
 fun n cs x hx hw=>let ⟨a,h1,h2⟩:=h n cs x hx hw; ⟨a,hg a h1,h2⟩
theorem lq {E:Env} {w:World} {x:AV} {y:Value} (h:Rel E w x y):bS E w [x] [y]:=⟨rfl,fun i a b ha hb=>by
 cases i with
 | zero=>simp at ha hb; subst ha hb; exact h
 | succ i=>simp at ha⟩
theorem bS.app {E:Env} {w:World} {xs xs':List AV} {ys ys':List Value} (h:bS E w xs ys) (h':bS E w xs' ys'):bS E w (xs ++ xs') (ys ++ ys'):=by
 have hl:xs.length=ys.length:=h.1.symm
 refine ⟨by simp [h.1,h'.1],fun i a b ha hb=>?_⟩
 by_cases hi:i < xs.length
 ·rw [List.getElem?_append_left hi] at ha
  rw [List.getElem?_append_left (by omega)] at hb
  exact h.2 i a b ha hb
 ·rw [List.getElem?_append_right (by omega)] at ha
  rw [List.getElem?_append_right (by omega)] at hb
  rw [hl] at ha
  exact h'.2 _ a b ha hb
theorem nT {t:TypeId} {k:IntKind} (ht:P.underlying t=some (.int k)):c6 enc P W t (AV.int k) (fun n=>(Lit.int k n).wf=true):=fun n cs x hx _=>by
 obtain ⟨a,rfl,rfl,hw⟩:=DataW.trod_int ht hx
 exact ⟨a,hw,lq (.int _ _)⟩
theorem mD {e:TypeId} {l:List (DataW H)} {d:DataW H} (h:d ∈ l) {k:Nat} (hk:k ∈ d.weights P e):k ∈ DataW.weightsAll P e l:=by
 induction l with
 | nil=>cases h
 | cons a l ih =>
  unfold DataW.weightsAll
  rcases List.mem_cons.1 h with rfl | h
  ·exact List.mem_append_left _ hk
  ·exact List.mem_append_right _ (ih h)
theorem pY {α:Type} {len:Nat} {Q:Nat→α→Prop} (h:∀ i,i < len→∃ a,Q i a):∃ l:List α,l.length=len∧∀ i a,l[i]?=some a→Q i a:=by
 induction len with
 | zero=>exact ⟨[],rfl,fun i a h=>by simp at h⟩
 | succ n ih =>
  obtain ⟨l,h1,h2⟩:=ih (fun i hi=>h i (by omega))
  obtain ⟨a,ha⟩:=h n (by omega)
  refine ⟨l ++ [a],by simp [h1],fun i b hb=>?_⟩
  by_cases hi:i < l.length
  ·rw [List.getElem?_append_left hi] at hb; exact h2 i b hb
  ·rw [List.getElem?_append_right (by omega)] at hb
   have:i - l.length=0:=by
    by_cases h0:i - l.length=0
    ·exact h0
    ·rw [List.getElem?_eq_none (by simp; omega)] at hb; cases hb
   rw [this] at hb; simp at hb; subst hb
   have:i=n:=by omega
   subst this; exact ha
theorem kF {t e:TypeId} {sz by_:Nat} {α:Type} {f:α→AV} {good:α→Prop} (ht:P.underlying t=some (.slice e)) (hsz:P.cellsOf e=sz) (hby:P.bytesOf e=by_) (hpos:0 < sz) (hc:∀ a,(f a).cells.length=sz)
    (he:c6 enc P W e f good):c6 enc P W t (e5 sz f) (fun l=>(∀ a ∈ l,good a)∧l.length ≤ 9223372036854775807∧l.length * by_ ≤ 140737488351232):=fun n cs x hx hw=>by
 rcases Go.Deep.open_slice ht hx with ⟨rfl,rfl⟩ | ⟨a,len,cap,m,n',D,Pl,rfl,hb,hlc,hcm,hm,hxe,hel⟩
 ·exact ⟨[],⟨fun _ h=>(by cases h),by simp,by simp⟩,lq (.slnil _)⟩
 simp only [if_true] at hm
 subst hxe
 subst hm
 have hw':∀ k ∈ ((DataW.slice (H:=H) ((List.range len).map D) ((List.range (m - len)).map fun j=>D (len + j))).weights P t),k ≤ reachBytes:=hw
 simp only [DataW.weights,ht] at hw'
 have hlen:(((List.range len).map D).length + ((List.range (m - len)).map fun j=>D (len + j)).length) * P.bytesOf e ≤ reachBytes:=hw' _ (List.mem_cons_self ..)
 have hbd:len * by_ ≤ 140737488351232:=by
  rw [hby] at hlen
  simp only [List.length_map,List.length_range] at hlen
  have h1:len * by_ ≤ (len + (m - len)) * by_:=Nat.mul_le_mul_right _ (by omega)
  have h2:reachBytes=140737488351232:=rfl
  omega
 have hlm:len ≤ 9223372036854775807:=Nat.le_trans hlc hcm
 have key:∀ i,i < len→∃ a':α,good a'∧∃ cs',W.cells? 0 (a.add (i * sz)) sz=some cs'∧bS (E0 (nc W)) W (f a').cells cs':=fun i hi=>by
  obtain ⟨cs',h1,h2⟩:=hel i (by omega)
  rw [hsz] at h1
  obtain ⟨a',g1,g2⟩:=he n' cs' _ h2 (fun k hk=>hw' k (List.mem_cons_of_mem _ (List.mem_append_left _ (mD (List.mem_map.2 ⟨i,List.mem_range.2 hi,rfl⟩) hk))))
  exact ⟨a',g1,cs',h1,g2⟩
 obtain ⟨l,hl,hq⟩:=pY key
 refine ⟨l,⟨fun x hx=>?_,by omega,by rw [hl]; exact hbd⟩,lq ?_⟩
 ·obtain ⟨i,hi⟩:=List.getElem?_of_mem hx
  exact (hq i x hi).1
 by_cases h0:len=0
 ·subst h0
  have:l=[]:=List.length_eq_zero_iff.1 hl
  subst this
  exact .slempty _ _ _
 have hcell:∀ i j,i < len→j < sz→∃ v,W.cell? ((a.add (i * sz)).add j)=some v:=fun i j hi hj=>by
  obtain ⟨a',_,cs',h1,h2⟩:=key i hi
  unfold World.cells? at h1
  rw [if_pos (Nat.zero_le _)] at h1
  have h3:=mapM_some_get h1 j j (by simp [hj])
  have h4:j < cs'.length:=by
   have:=mapM_some_length h1
   simp at this; omega
  exact ⟨cs'[j],by rw [h3]; simp [h4]⟩
 obtain ⟨v0,hv0⟩:=hcell 0 0 (by omega) hpos
 have ho:=tG hv0
 simp only [Nat.zero_mul,Addr.add,if_true] at ho
 obtain ⟨blk,off,sp⟩:=a
 obtain ⟨ho,hsp⟩:=ho
 simp only at hsp ho
 subst hsp
 have hadd:∀ i j,((⟨blk,off,none⟩:Addr).add (i * sz)).add j=⟨blk,off + (i * sz + j),none⟩:=fun i j=>by
  rw [bt,bt,Nat.add_assoc]
 have hcell':∀ k,k < len * sz→∃ v,W.cell? ⟨blk,off + k,none⟩=some v:=fun k hk=>by
  have h1:k / sz < len:=Nat.div_lt_of_lt_mul (by rw [Nat.mul_comm]; exact hk)
  have h2:k % sz < sz:=Nat.mod_lt _ hpos
  obtain ⟨v,hv⟩:=hcell (k / sz) (k % sz) h1 h2
  rw [hadd,Nat.div_add_mod'] at hv
  exact ⟨v,hv⟩
 have hlen2:(l.map f).length=len:=by simp [hl]
 have:=Rel.sl (E:=E0 (nc W)) (w:=W) sz (l.map f) blk off m (fun k=>(W.cell? ⟨blk,off + k,none⟩).getD Go.undef) ho (by rw [hlen2]; exact hlc)
  (fun x hx=>by obtain ⟨b,_,rfl⟩:=List.mem_map.1 hx; exact hc b)
  (fun k hk=>by
   rw [hlen2] at hk
   obtain ⟨v,hv⟩:=hcell' k hk
   simp only [hv,Option.getD_some])
  (fun i j x y hx hy=>by
   rw [List.getElem?_map,Option.map_eq_some_iff] at hx
   obtain ⟨a',ha',rfl⟩:=hx
   obtain ⟨_,cs',h1,h2⟩:=hq i a' ha'
   have hj:j < sz:=by
    have:=(List.getElem?_eq_some_iff.1 hy).1
    rwa [hc] at this
   have hi:i < len:=by
    have:=(List.getElem?_eq_some_iff.1 ha').1
    omega
   unfold World.cells? at h1
   rw [if_pos (Nat.zero_le _)] at h1
   have h3:=mapM_some_get h1 j j (by simp [hj])
   have h4:j < cs'.length:=by
    have:=mapM_some_length h1
    simp at this; omega
   rw [hadd] at h3
   have h5:cs'[j]?=some cs'[j]:=by simp [h4]
   rw [h5] at h3
   simp only [h3,Option.getD_some]
   exact h2.2 j y _ hy h5)
 rw [hlen2] at this
 exact this
def oH (enc:TypeId × Value→H) (P:Program) (W:World) (fs:List Field) (off:Nat) {α:Type} (g:α→List AV) (good:α→Prop):Prop :=
 ∀ (n tot:Nat) (cs:List Value) (ys:List (DataW H × List MemPlace)),ys.length=fs.length→(∀ (i:Nat) (f:Field),fs[i]?=some f→DataW.trod enc P W 0 (fun _=>true) true n f.type ((cs.drop f.offset).take (P.cellsOf f.type))=ys[i]?) →
  (∀ k ∈ DataW.weightsEach P (fs.map fun f:Field=>f.type) (ys.map (·.1)),k ≤ reachBytes)→cs.length=tot→tot=off + (fs.map fun f:Field=>P.cellsOf f.type).sum→∃ a:α,good a∧bS (E0 (nc W)) W (g a) (cs.drop off)
theorem mS {off:Nat}:oH enc P W [] off (fun _:Unit=>[]) (fun _=>True):=fun n tot cs ys _ _ _ h1 h2=>by
 refine ⟨(),trivial,?_⟩
 rw [List.drop_eq_nil_of_le (by simp at h2; omega)]
 exact ⟨rfl,fun i a b h=>by simp at h⟩
theorem gR {fd:Field} {fs:List Field} {off off':Nat} {α β:Type} {f:α→AV} {g:β→List AV} {good:α→Prop} {good':β→Prop} (ho:fd.offset=off) (ho':off + P.cellsOf fd.type=off')
    (h:c6 enc P W fd.type f good) (h':oH enc P W fs off' g good'):oH enc P W (fd :: fs) off (fun a:α × β=>(f a.1).cells ++ g a.2) (fun a=>good a.1∧good' a.2):=fun n tot cs ys hl hy hw h1 h2=>by
 obtain ⟨y,ys,rfl⟩:∃ y ys',ys=y :: ys':=by
  cases ys with
  | nil=>simp at hl
  | cons y ys=>exact ⟨y,ys,rfl⟩
 have hy0:=hy 0 fd rfl
 simp only [List.getElem?_cons_zero] at hy0
 rw [ho] at hy0
 simp only [List.map_cons,DataW.weightsEach] at hw
 obtain ⟨a,g1,g2⟩:=h n _ y hy0 (fun k hk=>hw k (List.mem_append_left _ hk))
 simp only [List.map_cons,List.sum_cons] at h2
 obtain ⟨b,g3,g4⟩:=h' n tot cs ys (by simpa using hl) (fun i f hf=>by
  have:=hy (i + 1) f (by simpa using hf)
  simpa using this) (fun k hk=>hw k (List.mem_append_right _ hk)) h1 (by omega)
 refine ⟨(a,b),⟨g1,g3⟩,?_⟩
 have e:cs.drop off=(cs.drop off).take (P.cellsOf fd.type) ++ cs.drop off':=by
  rw [← ho',← List.drop_drop,List.take_append_drop]
 rw [e]
 exact bS.app g2 g4
theorem iR {t:TypeId} {fs:Array Field} {α:Type} {g:α→List AV} {good:α→Prop} (ht:P.underlying t=some (.struct fs)) (hsum:P.cellsOf t=(fs.toList.map fun f:Field=>P.cellsOf f.type).sum)
    (h:oH enc P W fs.toList 0 g good):c6 enc P W t (fun a=>.agg (g a)) good:=fun n cs x hx hw=>by
 obtain ⟨ys,n',rfl,rfl,hl,hs,hy⟩:=DataW.trod_struct ht hx
 obtain ⟨a,g1,g2⟩:=h n' _ cs ys (by rw [hs]; simp) (fun i f hf=>hy i f (by simpa using hf)) (fun k hk=>hw k (by
  simp only [DataW.weights,ht]; exact hk)) hl (by rw [Nat.zero_add,hsum])
 exact ⟨a,g1,by rw [List.drop_zero] at g2; exact g2⟩
theorem c6.map {t:TypeId} {α β:Type} {f:α→AV} {good:α→Prop} {f':β→AV} {good':β→Prop} (h:c6 enc P W t f good) (φ:α→β) (hg:∀ a,good a→good' (φ a)) (hf:∀ a,good a→(f' (φ a)).cells=(f a).cells):c6 enc P W t f' good':=fun n cs x hx hw=>by
 obtain ⟨a,h1,h2⟩:=h n cs x hx hw
 exact ⟨φ a,hg a h1,by rw [hf a h1]; exact h2⟩
theorem c6.at {t u:TypeId} {α:Type} {f:α→AV} {good:α→Prop} (e:t=u) (h:c6 enc P W u f good):c6 enc P W t f good:=e ▸ h
theorem c6.argA {t:TypeId} {α:Type} {f:α→AV} {good:α→Prop} (h:c6 enc P W t f good) {r:Reach} {base:Nat} {v:Value} {d:DataW H} {ps:List MemPlace} (ht:jl P t=true) (hf:∀ a,∃ cs,f a=.agg cs)
    (hval:Value.okWide P W r base t v) (hd:DataW.Trod enc P W 0 (fun _=>true) true t v d ps) (hw:∀ k ∈ d.weights P t,k ≤ reachBytes):∃ a,good a∧Rel (E0 (nc W)) W (f a) v:=by
 obtain ⟨n,hn⟩:=hd
 obtain ⟨a,h1,h2⟩:=h n _ _ hn hw
 refine ⟨a,h1,?_⟩
 obtain ⟨cs,hcs,_⟩:∃ cs,v=.agg cs∧True:=by
  unfold Value.okWide at hval
  unfold jl at ht
  split at hval
  ·obtain ⟨cs,h,_⟩:=hval; exact ⟨cs,h,trivial⟩
  ·obtain ⟨cs,h,_⟩:=hval; exact ⟨cs,h,trivial⟩
  ·rename_i k1 k2
   revert ht
   cases hu:P.underlying t with
   | none=>simp
   | some u =>
    cases u with
    | struct fs=>exact absurd hu (k1 fs)
    | array m e=>exact absurd hu (k2 m e)
    | _=>simp
 subst hcs
 obtain ⟨xs,hx⟩:=hf a
 rw [hx] at h2 ⊢
 exact .agg xs cs.toList h2.1 h2.2
theorem c6.arg1 {t:TypeId} {α:Type} {f:α→AV} {good:α→Prop} (h:c6 enc P W t f good) {v:Value} {d:DataW H} {ps:List MemPlace} (hf:∀ a,(f a).cells=[f a]) (hv:v.cells=#[v])
    (hd:DataW.Trod enc P W 0 (fun _=>true) true t v d ps) (hw:∀ k ∈ d.weights P t,k ≤ reachBytes):∃ a,good a∧Rel (E0 (nc W)) W (f a) v:=by
 obtain ⟨n,hn⟩:=hd
 obtain ⟨a,h1,h2⟩:=h n _ _ hn hw
 rw [hf,hv] at h2
 exact ⟨a,h1,h2.2 0 _ _ rfl rfl⟩
theorem tI {t:TypeId} {r:Reach} {base:Nat} {v:Value} (ht:jl P t=false) (hval:Value.okWide P W r base t v):v.cells=#[v]:=by
 cases v <;> try rfl
 rename_i cs
 exfalso
 unfold Value.okWide at hval
 unfold jl at ht
 cases hu:P.underlying t with
 | none=>simp only [hu,Cell.okWide,Cell.ok] at hval
 | some u =>
  rw [hu] at ht
  cases u <;> simp only [hu,Cell.okWide,Cell.ok] at hval <;> simp at ht
theorem iu (hl:laidOutB P=true) {W':World} (hb:Below W.heap.size W W') {sp:Nat→Bool}:∀ {ts:List TypeId} {vs:List Value} {ds:List (DataW H)} {ps:List MemPlace},(∀ t ∈ ts,P.readableRec t=true∧t < P.types.size) →
    DataW.TrodAll enc P W 0 (fun _=>true) true ts vs ds ps→(∀ p ∈ ps,p.block < W.heap.size)→(∀ p ∈ ps,sp p.block=true)→DataW.TrodAll enc P W' 0 sp true ts vs ds ps
 | [],[],[],ps,_,h,_,_=>h
 | t :: ts,v :: vs,d :: ds,ps,hr,⟨p,q,h1,h2,e⟩,hlt,hsp=>by
  subst e
  exact ⟨p,q,WideElems.Trod_stays hl (hr t (List.mem_cons_self ..)).1 (hr t (List.mem_cons_self ..)).2 h1 (fun x hx=>hb.same (hlt x (List.mem_append_left _ hx))) (fun x hx=>hsp x (List.mem_append_left _ hx)),
   iu hl hb (fun t ht=>hr t (List.mem_cons_of_mem _ ht)) h2 (fun x hx=>hlt x (List.mem_append_right _ hx)) (fun x hx=>hsp x (List.mem_append_right _ hx)),rfl⟩
 | [],_ :: _,_,_,_,h,_,_=>h.elim
 | [],[],_ :: _,_,_,h,_,_=>h.elim
 | _ :: _,[],_,_,_,h,_,_=>h.elim
 | _ :: _,_ :: _,[],_,_,h,_,_=>h.elim
theorem gU:∀ {ts:List TypeId} {ds:List (DataW H)} {i:Nat} {t:TypeId} {d:DataW H},ts[i]?=some t→ds[i]?=some d→∀ k ∈ d.weights P t,k ∈ DataW.weightsEach P ts ds
 | t :: ts,d :: ds,0,_,_,h1,h2,k,hk=>by
  simp at h1 h2; subst h1 h2
  unfold DataW.weightsEach
  exact List.mem_append_left _ hk
 | t :: ts,d :: ds,i + 1,_,_,h1,h2,k,hk=>by
  unfold DataW.weightsEach
  exact List.mem_append_right _ (gU (ts:=ts) (ds:=ds) (by simpa using h1) (by simpa using h2) k hk)
 | [],_,i,_,_,h1,_,_,_=>by simp at h1
 | _ :: _,[],i,_,_,_,h2,_,_=>by simp at h2
end
end Go.Abs
namespace Go.Proofs.Ytpfkjcjgdilkkaa
open Go Go.Abs Go.Abs.C2 Go.Abs.Ins Go.Abs.Opd Go.Abs.TK Go.Abs.MK
def cO (d:Nat) (i:Ins):Op2:=Op2.mk (some d) none i
def cG (d g:Nat) (b:Bool) (i:Ins):Op2:=Op2.mk (some d) (some (g,b)) i
def cN (k:Int):Opd:=Opd.c (AV.int IntKind.i64 k)
def cM (n:Nat):Ins:=Ins.mov (Opd.t n)
def cD (n:Nat):Ins:=Ins.ld1 (Opd.t n)
def cF (n:Nat):Opd:=Opd.c (AV.func n [])
def cB (o:BinOp) (x y:Opd):Ins:=Ins.bin o false false x y
def ay:Opd:=Opd.c (AV.bool false)
def aO:Opd:=Opd.c (AV.bool true)
theorem follows:Try.prog.follows .mixedOrders=true:=by rfl
def b3:F2:=(F2.mk 129 [RV.t 4] ((ops 0 [cO 2 (box (t 0)),cO 4 (mov ay)]).seq (((ops 0 [cO 22 (call (cF 4) []),cO 23 (un UnOp.not (t 22))]).seq (C2.cond (t 23) ((ops 0 [cO 4 (mov ay)]).seq ret) skip)).seq (((ops 0 [cO 24 (ldn 1 (t 2)),cO 25 (call (cF 5) [t 24]),cO 26 (un UnOp.not (t 25)),cO 27 (cM 26),cG 28 27 false (fa 0 (t 2)),cG 29 27 false (cD 28),cG 30 27 false (lenS (t 29)),cG 31 27 false (cB .eql (t 30) (cN 0)),cO 32 (pick (t 27) aO (t 31))]).seq (C2.cond (t 32) ((ops 0 [cO 4 (mov aO)]).seq ret) skip)).seq ((ops 1 [cO 33 (fa 0 (t 2)),cO 34 (cD 33),cO 35 (cM 1),cO 36 (conv IntKind.i64 (t 35)),cO 37 (fa 0 (t 2)),cO 38 (cD 37),cO 39 (lenS (t 38)),cO 40 (cB .rem (t 36) (t 39)),cO 41 (ixaS 1 (t 34) (t 40)),cO 42 (cD 41),cO 5 (cM 42)]).seq (((ops 0 [cO 6 (mov (cN 1))]).seq (block 0 (((ops 0 [cO 43 (cM 6),cO 44 (cM 5),cO 45 (lenS (t 44)),cO 46 (cB .shl (cN 1) (t 45)),cO 47 (cB .lss (t 43) (t 46))]).seq (C2.cond (t 47) skip (exit 0))).seq ((block 1 ((ops 0 [cO 7 (mov (c AV.esl))]).seq (((ops 0 [cO 50 (cM 5),cO 51 (lenS (t 50)),cO 52 (mov (cN 0))]).seq (block 2 ((ops 0 [cO 53 (cB .lss (t 52) (t 51))]).seq ((C2.cond (t 53) skip (exit 2)).seq ((block 3 ((ops 0 [cO 54 (cM 52),cO 55 (ixaS 2 (t 50) (t 52)),cO 56 (ldn 2 (t 55)),cO 9 (alloc (AV.agg [AV.int IntKind.i64 (0),AV.int IntKind.i64 (0)])),cO 8 (cM 54),Op2.mk none none (Ins.st 2 (t 9) (t 56))]).seq ((ops 0 [cO 57 (cM 6),cO 58 (cM 8),cO 59 (cB .shr (t 57) (t 58)),cO 60 (cB .and (t 59) (cN 1)),cO 61 (cB .eql (t 60) (cN 1))]).seq (C2.cond (t 61) (ops 0 [cO 62 (cM 7),cO 63 (ldn 2 (t 9)),cO 64 (bldS 2 1 [AV.int IntKind.i64 (0),AV.int IntKind.i64 (0)] [(0,2,t 63)]),cO 65 (app 2 16 (t 62) (t 64)),cO 7 (cM 65)]) skip)))).seq (ops 0 [cO 66 (cB .add (t 52) (cN 1)),cO 52 (cM 66)])))).loop)).seq ((ops 0 [cO 68 (ldn 1 (t 2)),cO 69 (cM 7),cO 70 (call (cF 6) [t 68,t 69]),cO 67 (cM 70),cO 71 (ext (t 67) 0),cO 72 (ext (t 67) 1),cO 10 (alloc (AV.agg [AV.esl])),Op2.mk none none (Ins.st 1 (t 10) (t 71)),cO 11 (cM 72)]).seq ((ops 0 [cO 74 (ldn 1 (t 2)),cO 75 (cM 7),cO 76 (call (cF 7) [t 74,t 75]),cO 73 (cM 76),cO 77 (ext (t 73) 0),cO 78 (ext (t 73) 1),cO 12 (alloc (AV.agg [AV.esl])),Op2.mk none none (Ins.st 1 (t 12) (t 77)),cO 13 (cM 78)]).seq ((ops 0 [cO 80 (cM 7),cO 81 (bldS 1 1 [AV.esl] [(0,1,t 80)]),cO 82 (bld [AV.esl] [(0,1,t 81)]),cO 83 (ldn 1 (t 12)),cO 84 (call (cF 8) [t 82,t 83]),cO 79 (cM 84),cO 85 (ext (t 79) 0),cO 86 (ext (t 79) 1),cO 14 (alloc (AV.agg [AV.esl])),Op2.mk none none (Ins.st 1 (t 14) (t 85)),cO 15 (cM 86)]).seq (((ops 0 [cO 87 (cM 11),cO 88 (cM 13),cO 89 (cB .add (t 87) (t 88)),cO 90 (cM 15),cO 91 (cB .add (t 89) (t 90)),cO 92 (cB .neq (t 91) (cN 0)),cO 93 (cM 92),cG 94 93 false (ldn 1 (t 10)),cG 95 93 false (ldn 1 (t 14)),cG 96 93 false (call (cF 9) [t 94,t 95]),cG 97 93 false (un UnOp.not (t 96)),cO 98 (pick (t 93) aO (t 97))]).seq (C2.cond (t 98) ((ops 0 [cO 4 (mov ay)]).seq ret) skip)).seq ((ops 0 [cO 99 (cM 7),cO 100 (lenS (t 99)),cO 101 (mov (cN 0))]).seq (block 4 ((ops 0 [cO 102 (cB .lss (t 101) (t 100))]).seq ((C2.cond (t 102) skip (exit 4)).seq ((block 5 ((ops 0 [cO 103 (ixaS 2 (t 99) (t 101)),cO 104 (ldn 2 (t 103)),cO 17 (alloc (AV.agg [AV.int IntKind.i64 (0),AV.int IntKind.i64 (0)])),Op2.mk none none (Ins.st 2 (t 17) (t 104))]).seq ((ops 0 [cO 106 (ldn 1 (t 2)),cO 107 (ldn 2 (t 17)),cO 108 (bldS 2 1 [AV.int IntKind.i64 (0),AV.int IntKind.i64 (0)] [(0,2,t 107)]),cO 109 (call (cF 6) [t 106,t 108]),cO 105 (cM 109),cO 110 (ext (t 105) 0),cO 111 (ext (t 105) 1),cO 18 (alloc (AV.agg [AV.esl])),Op2.mk none none (Ins.st 1 (t 18) (t 110)),cO 19 (cM 111)]).seq ((ops 0 [cO 113 (ldn 1 (t 18)),cO 114 (ldn 1 (t 10)),cO 115 (call (cF 10) [t 113,t 114]),cO 112 (cM 115),cO 116 (ext (t 112) 0),cO 117 (ext (t 112) 1),cO 20 (alloc (AV.agg [AV.esl])),Op2.mk none none (Ins.st 1 (t 20) (t 116)),cO 21 (cM 117)]).seq ((ops 0 [cO 118 (cM 19),cO 119 (cM 21),cO 120 (cB .add (t 118) (t 119)),cO 121 (cB .neq (t 120) (cN 0)),cO 122 (cM 121),cG 123 122 false (ldn 1 (t 20)),cG 124 122 false (ldn 1 (t 18)),cG 125 122 false (call (cF 9) [t 123,t 124]),cG 126 122 false (un UnOp.not (t 125)),cO 127 (pick (t 122) aO (t 126))]).seq (C2.cond (t 127) ((ops 0 [cO 4 (mov ay)]).seq ret) skip)))))).seq (ops 0 [cO 128 (cB .add (t 101) (cN 1)),cO 101 (cM 128)])))).loop))))))))).seq (ops 0 [cO 48 (cM 6),cO 49 (cB .add (t 48) (cN 1)),cO 6 (cM 49)]))).loop)).seq ((ops 0 [cO 4 (mov aO)]).seq ret)))))))
theorem is3:Is Try.prog 3 b3:=Is.mk' Try.func3 (by kernel_rfl)
def b4:F2:=(F2.mk 77 [RV.t 0] ((ops 0 [cO 0 (mov ay)]).seq ((ops 0 [cO 10 (bld [AV.int IntKind.i64 (0),AV.int IntKind.i64 (0)] []),cO 11 (bld [AV.int IntKind.i64 (0),AV.int IntKind.i64 (0)] [(0,1,cN ((1)))]),cO 12 (bld [AV.int IntKind.i64 (0),AV.int IntKind.i64 (0)] [(0,1,cN ((2)))]),cO 1 (alloc (AV.agg [AV.int IntKind.i64 (0),AV.int IntKind.i64 (0)])),cO 2 (alloc (AV.agg [AV.int IntKind.i64 (0),AV.int IntKind.i64 (0)])),cO 3 (alloc (AV.agg [AV.int IntKind.i64 (0),AV.int IntKind.i64 (0)])),Op2.mk none none (Ins.st 2 (t 1) (t 10)),Op2.mk none none (Ins.st 2 (t 2) (t 11)),Op2.mk none none (Ins.st 2 (t 3) (t 12))]).seq ((ops 0 [cO 13 (ldn 2 (t 1)),cO 14 (ldn 2 (t 2)),cO 15 (ldn 2 (t 3)),cO 16 (bldS 2 3 [AV.int IntKind.i64 (0),AV.int IntKind.i64 (0)] [(0,2,t 13),(2,2,t 14),(4,2,t 15)]),cO 17 (ldn 2 (t 1)),cO 18 (ldn 2 (t 2)),cO 19 (ldn 2 (t 1)),cO 20 (bldS 2 3 [AV.int IntKind.i64 (0),AV.int IntKind.i64 (0)] [(0,2,t 17),(2,2,t 18),(4,2,t 19)]),cO 21 (bld [AV.esl,AV.esl] [(0,1,t 16),(1,1,t 20)]),cO 4 (alloc (AV.agg [AV.esl,AV.esl])),Op2.mk none none (Ins.st 2 (t 4) (t 21))]).seq ((ops 0 [cO 22 (ldn 2 (t 1)),cO 23 (ldn 2 (t 2)),cO 24 (ldn 2 (t 3)),cO 25 (bldS 2 3 [AV.int IntKind.i64 (0),AV.int IntKind.i64 (0)] [(0,2,t 22),(2,2,t 23),(4,2,t 24)]),cO 26 (bldS 1 1 [AV.esl] [(0,1,t 25)]),cO 27 (bld [AV.esl] [(0,1,t 26)]),cO 5 (alloc (AV.agg [AV.esl])),Op2.mk none none (Ins.st 1 (t 5) (t 27))]).seq ((ops 0 [cO 29 (ldn 2 (t 4)),cO 30 (ldn 1 (t 5)),cO 31 (call (cF 11) [t 29,t 30]),cO 28 (cM 31),cO 32 (ext (t 28) 0),cO 33 (ext (t 28) 1),cO 6 (alloc (AV.agg [AV.esl])),Op2.mk none none (Ins.st 1 (t 6) (t 32)),cO 7 (cM 33)]).seq ((ops 0 [cO 35 (ldn 1 (t 5)),cO 36 (ldn 2 (t 1)),cO 37 (bldS 2 1 [AV.int IntKind.i64 (0),AV.int IntKind.i64 (0)] [(0,2,t 36)]),cO 38 (call (cF 7) [t 35,t 37]),cO 34 (cM 38),cO 39 (ext (t 34) 0),cO 40 (ext (t 34) 1),cO 8 (alloc (AV.agg [AV.esl])),Op2.mk none none (Ins.st 1 (t 8) (t 39)),cO 9 (cM 40)]).seq ((mixS 1 [cO 41 (cM 7),cO 42 (cM 9),cO 43 (cB .add (t 41) (t 42)),cO 44 (cB .eql (t 43) (cN 0)),cO 45 (cM 44),cG 46 45 true (fa 0 (t 6)),cG 47 45 true (cD 46),cG 48 45 true (lenS (t 47)),cG 49 45 true (cB .eql (t 48) (cN 1)),cO 50 (pick (t 45) (t 49) ay),cO 51 (cM 50),cG 52 51 true (fa 0 (t 6)),cG 53 51 true (cD 52),cG 54 51 true (ixaS 1 (t 53) (cN 0)),cG 55 51 true (cD 54),cG 56 51 true (ldn 2 (t 1)),cG 57 51 true (ldn 2 (t 2)),cG 58 51 true (bldS 2 2 [AV.int IntKind.i64 (0),AV.int IntKind.i64 (0)] [(0,2,t 56),(2,2,t 57)]),cG 59 51 true (call (cF 12) [t 55,t 58]),cO 60 (pick (t 51) (t 59) ay),cO 61 (cM 60),cG 62 61 true (fa 0 (t 8)),cG 63 61 true (cD 62),cG 64 61 true (lenS (t 63)),cG 65 61 true (cB .eql (t 64) (cN 1)),cO 66 (pick (t 61) (t 65) ay),cO 67 (cM 66),cG 68 67 true (fa 0 (t 8)),cG 69 67 true (cD 68),cG 70 67 true (ixaS 1 (t 69) (cN 0)),cG 71 67 true (cD 70),cG 72 67 true (ldn 2 (t 2)),cG 73 67 true (ldn 2 (t 3)),cG 74 67 true (bldS 2 2 [AV.int IntKind.i64 (0),AV.int IntKind.i64 (0)] [(0,2,t 72),(2,2,t 73)]),cG 75 67 true (call (cF 12) [t 71,t 74]),cO 76 (pick (t 67) (t 75) ay),cO 0 (cM 76)] [(0,0),(1,0),(2,0),(3,0),(4,0),(5,0),(6,0),(7,0),(8,0),(9,0),(10,0),(11,0),(12,0),(13,0),(14,0),(15,0),(16,0),(17,1),(18,1),(19,0),(20,0),(21,0),(22,0),(23,0),(24,0),(25,0),(26,0),(27,0),(28,0),(29,0),(30,0),(31,0),(32,0),(33,1),(34,2),(35,0),(36,0)]).seq ret))))))))
theorem is4:Is Try.prog 4 b4:=Is.mk' Try.func4 (by kernel_rfl)
def b5:F2:=(F2.mk 27 [RV.t 2] ((ops 0 [cO 1 (box (t 0)),cO 2 (mov ay)]).seq ((ops 0 [cO 6 (ldn 1 (t 1)),cO 7 (call (cF 13) [t 6]),cO 5 (cM 7),cO 8 (ext (t 5) 0),cO 9 (ext (t 5) 1),cO 3 (cM 8),cO 4 (cM 9)]).seq ((ops 0 [cO 10 (ldn 1 (t 1)),cO 11 (call (cF 14) [t 10]),cO 12 (cM 11),cG 13 12 true (ldn 1 (t 1)),cG 14 12 true (call (cF 15) [t 13]),cG 15 12 true (cB .eql (t 14) (cN 0)),cO 16 (pick (t 12) (t 15) ay),cO 17 (cM 16),cG 18 17 true (fa 0 (t 1)),cG 19 17 true (cD 18),cG 20 17 true (lenS (t 19)),cG 21 17 true (cB .leq (t 20) (cN 12)),cO 22 (pick (t 17) (t 21) ay),cO 23 (cM 22),cG 24 23 true (cM 3),cG 25 23 true (cB .leq (t 24) (cN 3)),cO 26 (pick (t 23) (t 25) ay),cO 2 (cM 26)]).seq ret))))
theorem is5:Is Try.prog 5 b5:=Is.mk' Try.func5 (by kernel_rfl)
def b6:F2:=(F2.mk 24 [RV.cn 4 1,RV.t 5] ((ops 0 [cO 2 (box (t 0)),cO 4 (alloc (AV.agg [AV.esl])),cO 5 (mov (cN 0))]).seq (((ops 0 [cO 8 (ldn 1 (t 2)),cO 9 (cM 1),cO 10 (call (cF 16) [t 8,t 9]),cO 6 (cM 10)]).seq ((ops 0 [cO 11 (cM 6),cO 12 (cB .neq (t 11) (cN 0))]).seq (C2.cond (t 12) ((ops 0 [cO 13 (bld [AV.esl] []),cO 14 (cM 6),Op2.mk none none (Ins.st 1 (t 4) (t 13)),cO 5 (cM 14)]).seq ret) skip))).seq ((ops 0 [cO 15 (ldn 1 (t 2)),cO 16 (cM 1),cO 17 (call (cF 17) [t 15,t 16]),cO 7 (cM 17)]).seq (((ops 0 [cO 18 (cM 7),cO 19 (lenS (t 18)),cO 20 (cB .eql (t 19) (cN 0))]).seq (C2.cond (t 20) ((ops 0 [cO 21 (bld [AV.esl] []),Op2.mk none none (Ins.st 1 (t 4) (t 21)),cO 5 (mov (cN 6))]).seq ret) skip)).seq ((ops 0 [cO 22 (cM 7),cO 23 (call (cF 18) [t 22]),Op2.mk none none (Ins.st 1 (t 4) (t 23)),cO 5 (mov (cN 0))]).seq ret))))))
theorem is6:Is Try.prog 6 b6:=Is.mk' Try.func6 (by kernel_rfl)
def b7:F2:=(F2.mk 26 [RV.cn 4 1,RV.t 5] ((ops 0 [cO 2 (box (t 0)),cO 3 (box (t 1)),cO 4 (alloc (AV.agg [AV.esl])),cO 5 (mov (cN 0))]).seq (((ops 0 [cO 8 (ldn 1 (t 2)),cO 9 (cD 3),cO 10 (call (cF 16) [t 8,t 9]),cO 6 (cM 10)]).seq ((ops 0 [cO 11 (cM 6),cO 12 (cB .neq (t 11) (cN 0))]).seq (C2.cond (t 12) ((ops 0 [cO 13 (bld [AV.esl] []),cO 14 (cM 6),Op2.mk none none (Ins.st 1 (t 4) (t 13)),cO 5 (cM 14)]).seq ret) skip))).seq ((ops 0 [cO 15 (ldn 1 (t 2)),cO 16 (cD 3),cO 17 (call (cF 17) [t 15,t 16]),cO 7 (cM 17)]).seq (((ops 0 [cO 18 (cM 7),cO 19 (lenS (t 18)),cO 20 (cB .eql (t 19) (cN 0))]).seq (C2.cond (t 20) ((ops 0 [cO 21 (bld [AV.esl] []),Op2.mk none none (Ins.st 1 (t 4) (t 21)),cO 5 (mov (cN 6))]).seq ret) skip)).seq ((ops 0 [cO 22 (cM 7),cO 23 (mkfn 20 [t 3]),cO 24 (call (cF 19) [t 22,t 23]),cO 25 (call (cF 18) [t 24]),Op2.mk none none (Ins.st 1 (t 4) (t 25)),cO 5 (mov (cN 0))]).seq ret))))))
theorem is7:Is Try.prog 7 b7:=Is.mk' Try.func7 (by kernel_rfl)
def b8:F2:=(F2.mk 112 [RV.cn 4 1,RV.t 5] ((ops 0 [cO 2 (box (t 0)),cO 3 (box (t 1)),cO 4 (alloc (AV.agg [AV.esl])),cO 5 (mov (cN 0))]).seq (((ops 0 [cO 19 (ldn 1 (t 2)),cO 20 (ldn 1 (t 3)),cO 21 (call (cF 22) [t 19,t 20]),cO 6 (cM 21)]).seq ((ops 0 [cO 22 (cM 6),cO 23 (cB .neq (t 22) (cN 0))]).seq (C2.cond (t 23) ((ops 0 [cO 24 (bld [AV.esl] []),cO 25 (cM 6),Op2.mk none none (Ins.st 1 (t 4) (t 24)),cO 5 (cM 25)]).seq ret) skip))).seq (((ops 0 [cO 26 (fa 0 (t 2)),cO 27 (cD 26),cO 28 (lenS (t 27)),cO 29 (cB .eql (t 28) (cN 0)),cO 30 (cM 29),cG 31 30 false (fa 0 (t 3)),cG 32 30 false (cD 31),cG 33 30 false (lenS (t 32)),cG 34 30 false (cB .eql (t 33) (cN 0)),cO 35 (pick (t 30) aO (t 34))]).seq (C2.cond (t 35) ((mixS 1 [cO 36 (fa 0 (t 2)),cO 37 (cD 36),cO 38 (call (cF 23) [t 37]),cO 39 (fa 0 (t 3)),cO 40 (cD 39),cO 41 (app 1 24 (t 38) (t 40)),cO 42 (call (cF 18) [t 41]),Op2.mk none none (Ins.st 1 (t 4) (t 42)),cO 5 (mov (cN 0))] [(0,0),(1,0),(3,0),(4,0),(2,1),(5,2),(6,2),(7,2),(8,0)]).seq ret) skip)).seq ((ops 0 [cO 43 (fa 0 (t 2)),cO 44 (cD 43),cO 45 (call (cF 24) [t 44]),cO 7 (cM 45)]).seq (((ops 0 [cO 46 (fa 0 (t 3)),cO 47 (cD 46),cO 48 (call (cF 25) [t 47]),cO 49 (lenS (t 48)),cO 50 (mov (cN 0))]).seq (block 0 ((ops 0 [cO 51 (cB .lss (t 50) (t 49))]).seq ((C2.cond (t 51) skip (exit 0)).seq ((block 1 ((ops 0 [cO 52 (ixaS 2 (t 48) (t 50)),cO 53 (ldn 2 (t 52)),cO 9 (alloc (AV.agg [AV.int IntKind.i64 (0),AV.int IntKind.i64 (0)])),Op2.mk none none (Ins.st 2 (t 9) (t 53))]).seq ((ops 0 [cO 54 (cM 7),cO 55 (ldn 2 (t 9)),cO 56 (Ins.mget (MK.st [int,int]) AV.esl false (t 54) (t 55)),cO 57 (lenS (t 56)),cO 58 (cB .gtr (t 57) (cN 0))]).seq (C2.cond (t 58) ((ops 0 [cO 59 (bld [AV.esl] []),Op2.mk none none (Ins.st 1 (t 4) (t 59)),cO 5 (mov (cN 7))]).seq ret) skip)))).seq (ops 0 [cO 60 (cB .add (t 50) (cN 1)),cO 50 (cM 60)])))).loop)).seq ((ops 0 [cO 62 (ldn 1 (t 2)),cO 63 (call (cF 26) [t 62]),cO 61 (cM 63),cO 64 (ext (t 61) 0),cO 65 (ext (t 61) 1),cO 10 (cM 64),cO 11 (cM 65)]).seq ((ops 0 [cO 67 (ldn 1 (t 3)),cO 68 (call (cF 26) [t 67]),cO 66 (cM 68),cO 69 (ext (t 66) 0),cO 70 (ext (t 66) 1),cO 12 (cM 69),cO 13 (cM 70)]).seq (((ops 0 [cO 71 (cM 10),cO 72 (cM 12),cO 73 (cB .add (t 71) (t 72)),cO 74 (cB .add (t 73) (cN 2)),cO 75 (cB .gtr (t 74) (cN 8)),cO 76 (cM 75),cG 77 76 false (fa 0 (t 2)),cG 78 76 false (cD 77),cG 79 76 false (lenS (t 78)),cG 80 76 false (fa 0 (t 3)),cG 81 76 false (cD 80),cG 82 76 false (lenS (t 81)),cG 83 76 false (cB .mul (t 79) (t 82)),cG 84 76 false (cB .gtr (t 83) (cN 4096)),cO 85 (pick (t 76) aO (t 84))]).seq (C2.cond (t 85) ((ops 0 [cO 86 (bld [AV.esl] []),Op2.mk none none (Ins.st 1 (t 4) (t 86)),cO 5 (mov (cN 5))]).seq ret) skip)).seq ((ops 0 [cO 14 (mov (c AV.esl))]).seq (((ops 0 [cO 87 (fa 0 (t 2)),cO 88 (cD 87),cO 89 (lenS (t 88)),cO 90 (mov (cN 0))]).seq (block 2 ((ops 0 [cO 91 (cB .lss (t 90) (t 89))]).seq ((C2.cond (t 91) skip (exit 2)).seq ((block 3 ((ops 0 [cO 92 (ixaS 1 (t 88) (t 90)),cO 93 (cD 92),cO 16 (cM 93)]).seq ((ops 0 [cO 94 (fa 0 (t 3)),cO 95 (cD 94),cO 96 (lenS (t 95)),cO 97 (mov (cN 0))]).seq (block 4 ((ops 0 [cO 98 (cB .lss (t 97) (t 96))]).seq ((C2.cond (t 98) skip (exit 4)).seq ((block 5 ((ops 0 [cO 99 (ixaS 1 (t 95) (t 97)),cO 100 (cD 99),cO 18 (cM 100)]).seq (ops 0 [cO 101 (cM 14),cO 102 (cM 16),cO 103 (cM 18),cO 104 (bldS 1 2 [AV.esl] [(0,1,t 102),(1,1,t 103)]),cO 105 (call (cF 25) [t 104]),cO 106 (bldS 1 1 [AV.esl] [(0,1,t 105)]),cO 107 (app 1 24 (t 101) (t 106)),cO 14 (cM 107)]))).seq (ops 0 [cO 108 (cB .add (t 97) (cN 1)),cO 97 (cM 108)])))).loop)))).seq (ops 0 [cO 109 (cB .add (t 90) (cN 1)),cO 90 (cM 109)])))).loop)).seq ((ops 0 [cO 110 (cM 14),cO 111 (call (cF 18) [t 110]),Op2.mk none none (Ins.st 1 (t 4) (t 111)),cO 5 (mov (cN 0))]).seq ret))))))))))))
theorem is8:Is Try.prog 8 b8:=Is.mk' Try.func8 (by kernel_rfl)
def b9:F2:=(F2.mk 10 [RV.t 4] ((ops 0 [cO 2 (box (t 0)),cO 3 (box (t 1)),cO 4 (mov ay)]).seq ((ops 0 [cO 5 (fa 0 (t 2)),cO 6 (cD 5),cO 7 (fa 0 (t 3)),cO 8 (cD 7),cO 9 (call (cF 27) [t 6,t 8]),cO 4 (cM 9)]).seq ret)))
theorem is9:Is Try.prog 9 b9:=Is.mk' Try.func9 (by kernel_rfl)
def b10:F2:=(F2.mk 23 [RV.cn 4 1,RV.t 5] ((ops 0 [cO 2 (box (t 0)),cO 3 (box (t 1)),cO 4 (alloc (AV.agg [AV.esl])),cO 5 (mov (cN 0))]).seq (((ops 0 [cO 7 (ldn 1 (t 2)),cO 8 (ldn 1 (t 3)),cO 9 (call (cF 22) [t 7,t 8]),cO 6 (cM 9)]).seq ((ops 0 [cO 10 (cM 6),cO 11 (cB .neq (t 10) (cN 0))]).seq (C2.cond (t 11) ((ops 0 [cO 12 (bld [AV.esl] []),cO 13 (cM 6),Op2.mk none none (Ins.st 1 (t 4) (t 12)),cO 5 (cM 13)]).seq ret) skip))).seq ((mixS 1 [cO 14 (fa 0 (t 2)),cO 15 (cD 14),cO 16 (call (cF 23) [t 15]),cO 17 (fa 0 (t 3)),cO 18 (cD 17),cO 19 (app 1 24 (t 16) (t 18)),cO 20 (call (cF 28) [t 19]),cO 21 (ext (t 20) 0),cO 22 (ext (t 20) 1),Op2.mk none none (Ins.st 1 (t 4) (t 21)),cO 5 (cM 22)] [(0,0),(1,0),(3,0),(4,0),(2,1),(5,2),(6,2),(7,0),(8,0),(9,2),(10,0)]).seq ret))))
theorem Ah:Is Try.prog 10 b10:=Is.mk' Try.func10 (by kernel_rfl)
def b11:F2:=(F2.mk 39 [RV.cn 4 1,RV.t 5] ((ops 0 [cO 2 (box (t 0)),cO 3 (box (t 1)),cO 4 (alloc (AV.agg [AV.esl])),cO 5 (mov (cN 0))]).seq ((ops 0 [cO 12 (ldn 2 (t 2)),cO 13 (call (cF 29) [t 12]),cO 11 (cM 13),cO 14 (ext (t 11) 0),cO 15 (ext (t 11) 1),cO 6 (cM 14),cO 7 (cM 15)]).seq (((ops 0 [cO 16 (cM 7),cO 17 (cB .neq (t 16) (cN 0))]).seq (C2.cond (t 17) ((ops 0 [cO 18 (bld [AV.esl] []),cO 19 (cM 7),Op2.mk none none (Ins.st 1 (t 4) (t 18)),cO 5 (cM 19)]).seq ret) skip)).seq (((ops 0 [cO 20 (ldn 1 (t 3)),cO 21 (call (cF 30) [t 20]),cO 8 (cM 21)]).seq ((ops 0 [cO 22 (cM 8),cO 23 (cB .neq (t 22) (cN 0))]).seq (C2.cond (t 23) ((ops 0 [cO 24 (bld [AV.esl] []),cO 25 (cM 8),Op2.mk none none (Ins.st 1 (t 4) (t 24)),cO 5 (cM 25)]).seq ret) skip))).seq ((ops 0 [cO 27 (cM 6),cO 28 (ldn 1 (t 3)),cO 29 (call (cF 31) [t 27,t 28]),cO 26 (cM 29),cO 30 (ext (t 26) 0),cO 31 (ext (t 26) 1),cO 9 (cM 30),cO 10 (cM 31)]).seq (((ops 0 [cO 32 (cM 10),cO 33 (un UnOp.not (t 32))]).seq (C2.cond (t 33) ((ops 0 [cO 34 (bld [AV.esl] []),Op2.mk none none (Ins.st 1 (t 4) (t 34)),cO 5 (mov (cN 6))]).seq ret) skip)).seq ((ops 0 [cO 35 (cM 9),cO 36 (call (cF 32) [t 35]),cO 37 (ext (t 36) 0),cO 38 (ext (t 36) 1),Op2.mk none none (Ins.st 1 (t 4) (t 37)),cO 5 (cM 38)]).seq ret))))))))
theorem z9:Is Try.prog 11 b11:=Is.mk' Try.func11 (by kernel_rfl)
def b12:F2:=(F2.mk 26 [RV.t 4] ((ops 0 [cO 4 (mov ay)]).seq (((ops 0 [cO 6 (cM 0),cO 7 (lenS (t 6)),cO 8 (cM 1),cO 9 (lenS (t 8)),cO 10 (cB .neq (t 7) (t 9))]).seq (C2.cond (t 10) ((ops 0 [cO 4 (mov ay)]).seq ret) skip)).seq (((ops 0 [cO 11 (cM 0),cO 12 (lenS (t 11)),cO 13 (mov (cN 0))]).seq (block 0 ((ops 0 [cO 14 (cB .lss (t 13) (t 12))]).seq ((C2.cond (t 14) skip (exit 0)).seq ((block 1 ((ops 0 [cO 15 (cM 13),cO 5 (cM 15)]).seq ((ops 1 [cO 16 (cM 0),cO 17 (cM 5),cO 18 (ixaS 2 (t 16) (t 17)),cO 19 (ldn 2 (t 18)),cO 20 (cM 1),cO 21 (cM 5),cO 22 (ixaS 2 (t 20) (t 21)),cO 23 (ldn 2 (t 22)),cO 24 (binS BinOp.neq [int,int] (t 19) (t 23))]).seq (C2.cond (t 24) ((ops 0 [cO 4 (mov ay)]).seq ret) skip)))).seq (ops 0 [cO 25 (cB .add (t 13) (cN 1)),cO 13 (cM 25)])))).loop)).seq ((ops 0 [cO 4 (mov aO)]).seq ret)))))
theorem zf:Is Try.prog 12 b12:=Is.mk' Try.func12 (by kernel_rfl)
def b13:F2:=(F2.mk 38 [RV.t 2,RV.t 3] ((ops 0 [cO 1 (box (t 0)),cO 2 (mov (cN 0)),cO 3 (mov ay)]).seq ((ops 0 [cO 4 (mov (cN ((-1)))),cO 5 (mov aO)]).seq (((ops 0 [cO 6 (mov (cN 0))]).seq (block 0 (((ops 0 [cO 8 (cM 6),cO 9 (fa 0 (t 1)),cO 10 (cD 9),cO 11 (lenS (t 10)),cO 12 (cB .lss (t 8) (t 11))]).seq (C2.cond (t 12) skip (exit 0))).seq ((block 1 ((ops 0 [cO 15 (fa 0 (t 1)),cO 16 (cD 15),cO 17 (cM 6),cO 18 (ixaS 1 (t 16) (t 17)),cO 19 (cD 18),cO 20 (lenS (t 19)),cO 21 (cB .sub (t 20) (cN 1)),cO 7 (cM 21)]).seq ((ops 0 [cO 22 (cM 5),cO 23 (cM 22),cG 24 23 true (cM 6),cG 25 23 true (cB .eql (t 24) (cN 0)),cG 26 23 true (cM 25),cG 27 26 false (cM 7),cG 28 26 false (cM 4),cG 29 26 false (cB .eql (t 27) (t 28)),cG 30 23 true (pick (t 26) aO (t 29)),cO 31 (pick (t 23) (t 30) ay),cO 5 (cM 31)]).seq ((ops 0 [cO 32 (cM 7),cO 33 (cM 4),cO 34 (cB .gtr (t 32) (t 33))]).seq (C2.cond (t 34) (ops 0 [cO 35 (cM 7),cO 4 (cM 35)]) skip))))).seq (ops 0 [cO 13 (cM 6),cO 14 (cB .add (t 13) (cN 1)),cO 6 (cM 14)]))).loop)).seq ((ops 0 [cO 36 (cM 4),cO 37 (cM 5),cO 2 (cM 36),cO 3 (cM 37)]).seq ret)))))
theorem z8:Is Try.prog 13 b13:=Is.mk' Try.func13 (by kernel_rfl)
def b14:F2:=(F2.mk 6 [RV.t 2] ((ops 0 [cO 1 (box (t 0)),cO 2 (mov ay)]).seq ((ops 0 [cO 3 (fa 0 (t 1)),cO 4 (cD 3),cO 5 (call (cF 33) [t 4]),cO 2 (cM 5)]).seq ret)))
theorem Aa:Is Try.prog 14 b14:=Is.mk' Try.func14 (by kernel_rfl)
def b15:F2:=(F2.mk 68 [RV.t 2] ((ops 0 [cO 1 (box (t 0)),cO 2 (mov (cN 0))]).seq ((ops 0 [cO 8 (fa 0 (t 1)),cO 9 (cD 8),cO 3 (cM 9)]).seq (((ops 0 [cO 10 (cM 3),cO 11 (lenS (t 10)),cO 12 (cB .gtr (t 11) (cN 4096))]).seq (C2.cond (t 12) ((ops 0 [cO 2 (mov (cN 5))]).seq ret) skip)).seq (((ops 0 [cO 4 (mov (cN 0))]).seq (block 0 (((ops 0 [cO 13 (cM 4),cO 14 (cM 3),cO 15 (lenS (t 14)),cO 16 (cB .lss (t 13) (t 15))]).seq (C2.cond (t 16) skip (exit 0))).seq ((block 1 (((ops 0 [cO 19 (cM 3),cO 20 (cM 4),cO 21 (ixaS 1 (t 19) (t 20)),cO 22 (cD 21),cO 23 (call (cF 34) [t 22]),cO 5 (cM 23)]).seq ((ops 0 [cO 24 (cM 5),cO 25 (cB .neq (t 24) (cN 0))]).seq (C2.cond (t 25) ((ops 0 [cO 26 (cM 5),cO 2 (cM 26)]).seq ret) skip))).seq ((mixS 1 [cO 27 (cM 4),cO 28 (cB .gtr (t 27) (cN 0)),cO 29 (cM 28),cG 30 29 true (cM 3),cG 31 29 true (cM 4),cG 32 29 true (cB .sub (t 31) (cN 1)),cG 33 29 true (ixaS 1 (t 30) (t 32)),cG 34 29 true (cD 33),cG 35 29 true (cM 3),cG 36 29 true (cM 4),cG 37 29 true (ixaS 1 (t 35) (t 36)),cG 38 29 true (cD 37),cG 39 29 true (call (cF 35) [t 34,t 38]),cG 40 29 true (cB .geq (t 39) (cN 0)),cO 41 (pick (t 29) (t 40) ay)] [(0,0),(1,0),(2,0),(3,0),(4,0),(5,0),(6,0),(7,0),(8,0),(9,0),(10,0),(11,0),(12,2),(13,0),(14,0)]).seq (C2.cond (t 41) ((ops 0 [cO 2 (mov (cN 14))]).seq ret) skip)))).seq (ops 0 [cO 17 (cM 4),cO 18 (cB .add (t 17) (cN 1)),cO 4 (cM 18)]))).loop)).seq (((ops 0 [cO 6 (mov (cN 0))]).seq (block 2 (((ops 0 [cO 42 (cM 6),cO 43 (cM 3),cO 44 (lenS (t 43)),cO 45 (cB .lss (t 42) (t 44))]).seq (C2.cond (t 45) skip (exit 2))).seq ((block 3 ((ops 0 [cO 7 (mov (cN 0))]).seq (block 4 (((ops 0 [cO 48 (cM 7),cO 49 (cM 3),cO 50 (lenS (t 49)),cO 51 (cB .lss (t 48) (t 50))]).seq (C2.cond (t 51) skip (exit 4))).seq ((block 5 ((mixS 1 [cO 54 (cM 6),cO 55 (cM 7),cO 56 (cB .neq (t 54) (t 55)),cO 57 (cM 56),cG 58 57 true (cM 3),cG 59 57 true (cM 6),cG 60 57 true (ixaS 1 (t 58) (t 59)),cG 61 57 true (cD 60),cG 62 57 true (cM 3),cG 63 57 true (cM 7),cG 64 57 true (ixaS 1 (t 62) (t 63)),cG 65 57 true (cD 64),cG 66 57 true (call (cF 36) [t 61,t 65]),cO 67 (pick (t 57) (t 66) ay)] [(0,0),(1,0),(2,0),(3,0),(4,0),(5,0),(6,0),(7,0),(8,0),(9,0),(10,0),(11,0),(12,2),(13,0)]).seq (C2.cond (t 67) ((ops 0 [cO 2 (mov (cN 7))]).seq ret) skip))).seq (ops 0 [cO 52 (cM 7),cO 53 (cB .add (t 52) (cN 1)),cO 7 (cM 53)]))).loop))).seq (ops 0 [cO 46 (cM 6),cO 47 (cB .add (t 46) (cN 1)),cO 6 (cM 47)]))).loop)).seq ((ops 0 [cO 2 (mov (cN 0))]).seq ret)))))))
theorem z7:Is Try.prog 15 b15:=Is.mk' Try.func15 (by kernel_rfl)
def b16:F2:=(F2.mk 13 [RV.t 4] ((ops 0 [cO 2 (box (t 0)),cO 4 (mov (cN 0))]).seq (((ops 0 [cO 6 (ldn 1 (t 2)),cO 7 (call (cF 30) [t 6]),cO 5 (cM 7)]).seq ((ops 0 [cO 8 (cM 5),cO 9 (cB .neq (t 8) (cN 0))]).seq (C2.cond (t 9) ((ops 0 [cO 10 (cM 5),cO 4 (cM 10)]).seq ret) skip))).seq ((ops 0 [cO 11 (cM 1),cO 12 (call (cF 37) [t 11]),cO 4 (cM 12)]).seq ret))))
theorem yI:Is Try.prog 16 b16:=Is.mk' Try.func16 (by kernel_rfl)
def b17:F2:=(F2.mk 9 [RV.t 4] ((ops 0 [cO 2 (box (t 0)),cO 3 (box (t 1)),cO 4 (mov (c AV.esl))]).seq ((ops 0 [cO 5 (fa 0 (t 2)),cO 6 (cD 5),cO 7 (mkfn 39 [t 3]),cO 8 (call (cF 38) [t 6,t 7]),cO 4 (cM 8)]).seq ret)))
theorem xE:Is Try.prog 17 b17:=Is.mk' Try.func17 (by kernel_rfl)
def b18:F2:=(F2.mk 39 [RV.cn 2 1] ((ops 0 [cO 2 (alloc (AV.agg [AV.esl]))]).seq ((ops 0 [cO 7 (cM 0),cO 8 (call (cF 23) [t 7]),cO 0 (cM 8)]).seq ((ops 0 [cO 9 (cM 0),cO 10 (call (cF 41) [t 9,c (AV.func 42 [])])]).seq ((ops 0 [cO 11 (cM 0),cO 12 (call (cF 43) [t 11,c (AV.func 12 [])]),cO 0 (cM 12)]).seq ((ops 0 [cO 13 (cM 0),cO 14 (call (cF 24) [t 13]),cO 3 (cM 14)]).seq ((ops 0 [cO 4 (alloc (AV.agg [AV.esl]))]).seq (((ops 0 [cO 15 (cM 0),cO 16 (lenS (t 15)),cO 17 (mov (cN 0))]).seq (block 0 ((ops 0 [cO 18 (cB .lss (t 17) (t 16))]).seq ((C2.cond (t 18) skip (exit 0)).seq ((block 1 ((ops 0 [cO 19 (ixaS 1 (t 15) (t 17)),cO 20 (cD 19),cO 6 (cM 20)]).seq ((ops 0 [cO 21 (cM 0),cO 22 (cM 3),cO 23 (cM 6),cO 24 (ixaS 2 (t 23) (cN 0)),cO 25 (ldn 2 (t 24)),cO 26 (Ins.mget (MK.st [int,int]) AV.esl false (t 22) (t 25)),cO 27 (cM 6),cO 28 (call (cF 44) [t 21,t 26,t 27]),cO 29 (un UnOp.not (t 28))]).seq (C2.cond (t 29) (mixS 1 [cO 30 (fa 0 (t 4)),cO 31 (cD 30),cO 32 (cM 6),cO 33 (call (cF 45) [t 32]),cO 34 (bldS 1 1 [AV.esl] [(0,1,t 33)]),cO 35 (app 1 24 (t 31) (t 34)),cO 36 (fa 0 (t 4)),Op2.mk none none (Ins.st 1 (t 36) (t 35))] [(0,0),(1,0),(2,0),(3,1),(4,1),(5,2),(6,0),(7,2)]) skip)))).seq (ops 0 [cO 37 (cB .add (t 17) (cN 1)),cO 17 (cM 37)])))).loop)).seq ((ops 0 [cO 38 (ldn 1 (t 4)),Op2.mk none none (Ins.st 1 (t 2) (t 38))]).seq ret)))))))))
theorem zv:Is Try.prog 18 b18:=Is.mk' Try.func18 (by kernel_rfl)
def b19:F2:=(F2.mk 27 [RV.t 4] ((ops 0 [cO 4 (mov (c AV.esl))]).seq ((ops 0 [cO 5 (mov (c AV.esl))]).seq (((ops 0 [cO 9 (cM 0),cO 10 (lenS (t 9)),cO 11 (mov (cN 0))]).seq (block 0 ((ops 0 [cO 12 (cB .lss (t 11) (t 10))]).seq ((C2.cond (t 12) skip (exit 0)).seq ((block 1 ((ops 0 [cO 13 (ixaS 1 (t 9) (t 11)),cO 14 (cD 13),cO 7 (cM 14)]).seq ((ops 0 [cO 15 (cM 7),cO 16 (cM 1),cO 17 (call (cF 46) [t 15,t 16]),cO 8 (cM 17)]).seq ((ops 0 [cO 18 (cM 8),cO 19 (lenS (t 18)),cO 20 (cB .gtr (t 19) (cN 0))]).seq (C2.cond (t 20) (ops 0 [cO 21 (cM 5),cO 22 (cM 8),cO 23 (bldS 1 1 [AV.esl] [(0,1,t 22)]),cO 24 (app 1 24 (t 21) (t 23)),cO 5 (cM 24)]) skip))))).seq (ops 0 [cO 25 (cB .add (t 11) (cN 1)),cO 11 (cM 25)])))).loop)).seq ((ops 0 [cO 26 (cM 5),cO 4 (cM 26)]).seq ret)))))
theorem yJ:Is Try.prog 19 b19:=Is.mk' Try.func19 (by kernel_rfl)
def b20:F2:=(F2.mk 8 [RV.t 3] ((ops 0 [cO 2 (box (t 0)),cO 3 (mov ay)]).seq ((ops 0 [cO 4 (cD 1),cO 5 (ldn 2 (t 2)),cO 6 (call (cF 21) [t 4,t 5]),cO 7 (un UnOp.not (t 6)),cO 3 (cM 7)]).seq ret)))
theorem zo:Is Try.prog 20 b20:=Is.mk' Try.func20 (by kernel_rfl)
def b21:F2:=(F2.mk 9 [RV.t 4] ((ops 0 [cO 3 (box (t 1)),cO 4 (mov ay)]).seq ((ops 0 [cO 5 (cM 0),cO 6 (ldn 2 (t 3)),cO 7 (call (cF 47) [t 5,t 6]),cO 8 (cB .geq (t 7) (cN 0)),cO 4 (cM 8)]).seq ret)))
theorem yc:Is Try.prog 21 b21:=Is.mk' Try.func21 (by kernel_rfl)
def b22:F2:=(F2.mk 13 [RV.t 4] ((ops 0 [cO 2 (box (t 0)),cO 3 (box (t 1)),cO 4 (mov (cN 0))]).seq (((ops 0 [cO 6 (ldn 1 (t 2)),cO 7 (call (cF 30) [t 6]),cO 5 (cM 7)]).seq ((ops 0 [cO 8 (cM 5),cO 9 (cB .neq (t 8) (cN 0))]).seq (C2.cond (t 9) ((ops 0 [cO 10 (cM 5),cO 4 (cM 10)]).seq ret) skip))).seq ((ops 0 [cO 11 (ldn 1 (t 3)),cO 12 (call (cF 30) [t 11]),cO 4 (cM 12)]).seq ret))))
theorem Ad:Is Try.prog 22 b22:=Is.mk' Try.func22 (by kernel_rfl)
def b23:F2:=(F2.mk 8 [RV.t 2] ((ops 0 [cO 2 (mov (c AV.esl))]).seq (((ops 0 [cO 3 (cM 0),cO 4 (snil false (t 3))]).seq (C2.cond (t 4) ((ops 0 [cO 2 (mov (c AV.esl))]).seq ret) skip)).seq ((ops 0 [cO 5 (bldS 1 0 [AV.esl] []),cO 6 (cM 0),cO 7 (app 1 24 (t 5) (t 6)),cO 2 (cM 7)]).seq ret))))
theorem y7:Is Try.prog 23 b23:=Is.mk' Try.func23 (by kernel_rfl)
def b24:F2:=(F2.mk 33 [RV.t 2] ((ops 0 [cO 2 (mov (c AV.nilm))]).seq ((ops 0 [cO 8 (mkm none),cO 3 (cM 8)]).seq (((ops 0 [cO 9 (cM 0),cO 10 (lenS (t 9)),cO 11 (mov (cN 0))]).seq (block 0 ((ops 0 [cO 12 (cB .lss (t 11) (t 10))]).seq ((C2.cond (t 12) skip (exit 0)).seq ((block 1 ((ops 0 [cO 13 (cM 11),cO 14 (ixaS 1 (t 9) (t 11)),cO 15 (cD 14),cO 4 (cM 13),cO 5 (cM 15)]).seq ((ops 0 [cO 16 (cM 5),cO 17 (lenS (t 16)),cO 18 (mov (cN 0))]).seq (block 2 ((ops 0 [cO 19 (cB .lss (t 18) (t 17))]).seq ((C2.cond (t 19) skip (exit 2)).seq ((block 3 ((ops 0 [cO 20 (ixaS 2 (t 16) (t 18)),cO 21 (ldn 2 (t 20)),cO 7 (alloc (AV.agg [AV.int IntKind.i64 (0),AV.int IntKind.i64 (0)])),Op2.mk none none (Ins.st 2 (t 7) (t 21))]).seq (ops 0 [cO 22 (cM 3),cO 23 (ldn 2 (t 7)),cO 25 (cM 4),cO 26 (bldS 1 1 [AV.int IntKind.i64 (0)] [(0,1,t 25)]),cO 27 (mplc (MK.st [int,int]) AV.esl (t 22) (t 23)),cO 24 (ext (t 27) 0),cO 28 (app 1 8 (t 24) (t 26)),cO 29 (ext (t 27) 1),Op2.mk none none (mpst (t 22) (t 29) (t 28))]))).seq (ops 0 [cO 30 (cB .add (t 18) (cN 1)),cO 18 (cM 30)])))).loop)))).seq (ops 0 [cO 31 (cB .add (t 11) (cN 1)),cO 11 (cM 31)])))).loop)).seq ((ops 0 [cO 32 (cM 3),cO 2 (cM 32)]).seq ret)))))
theorem zF:Is Try.prog 24 b24:=Is.mk' Try.func24 (by kernel_rfl)
def b25:F2:=(F2.mk 10 [RV.t 2] ((ops 0 [cO 2 (mov (c AV.esl))]).seq ((ops 0 [cO 4 (cM 0),cO 5 (call (cF 48) [t 4]),cO 3 (cM 5)]).seq ((ops 0 [cO 6 (cM 3),cO 7 (call (cF 49) [t 6,c (AV.func 50 [])])]).seq ((ops 0 [cO 8 (cM 3),cO 9 (call (cF 51) [t 8]),cO 2 (cM 9)]).seq ret)))))
theorem Ac:Is Try.prog 25 b25:=Is.mk' Try.func25 (by kernel_rfl)
def b26:F2:=(F2.mk 33 [RV.t 2,RV.t 3] ((ops 0 [cO 1 (box (t 0)),cO 2 (mov (cN 0)),cO 3 (mov ay)]).seq ((ops 0 [cO 4 (mov (cN 8)),cO 5 (mov (cN 0))]).seq (((ops 0 [cO 8 (fa 0 (t 1)),cO 9 (cD 8),cO 10 (lenS (t 9)),cO 11 (mov (cN 0))]).seq (block 0 ((ops 0 [cO 12 (cB .lss (t 11) (t 10))]).seq ((C2.cond (t 12) skip (exit 0)).seq ((block 1 ((ops 0 [cO 13 (ixaS 1 (t 9) (t 11)),cO 14 (cD 13),cO 7 (cM 14)]).seq (ops 0 [cO 15 (cM 4),cO 16 (cM 7),cO 17 (lenS (t 16)),cO 18 (mn (t 15) [t 17]),cO 19 (cM 5),cO 20 (cM 7),cO 21 (lenS (t 20)),cO 22 (mx (t 19) [t 21]),cO 4 (cM 18),cO 5 (cM 22)]))).seq (ops 0 [cO 23 (cB .add (t 11) (cN 1)),cO 11 (cM 23)])))).loop)).seq ((ops 0 [cO 24 (cM 5),cO 25 (cB .sub (t 24) (cN 1)),cO 26 (cM 5),cO 27 (cB .eql (t 26) (cN 0)),cO 28 (cM 27),cG 29 28 false (cM 4),cG 30 28 false (cM 5),cG 31 28 false (cB .eql (t 29) (t 30)),cO 32 (pick (t 28) aO (t 31)),cO 2 (cM 25),cO 3 (cM 32)]).seq ret)))))
theorem zS:Is Try.prog 26 b26:=Is.mk' Try.func26 (by kernel_rfl)
def b27:F2:=(F2.mk 27 [RV.t 4] ((ops 0 [cO 4 (mov ay)]).seq (((ops 0 [cO 6 (cM 0),cO 7 (lenS (t 6)),cO 8 (cM 1),cO 9 (lenS (t 8)),cO 10 (cB .neq (t 7) (t 9))]).seq (C2.cond (t 10) ((ops 0 [cO 4 (mov ay)]).seq ret) skip)).seq (((ops 0 [cO 5 (mov (cN 0))]).seq (block 0 (((ops 0 [cO 11 (cM 5),cO 12 (cM 0),cO 13 (lenS (t 12)),cO 14 (cB .lss (t 11) (t 13))]).seq (C2.cond (t 14) skip (exit 0))).seq ((block 1 ((mixS 1 [cO 17 (cM 0),cO 18 (cM 5),cO 19 (ixaS 1 (t 17) (t 18)),cO 20 (cD 19),cO 21 (cM 1),cO 22 (cM 5),cO 23 (ixaS 1 (t 21) (t 22)),cO 24 (cD 23),cO 25 (call (cF 52) [t 20,t 24]),cO 26 (un UnOp.not (t 25))] [(0,0),(1,0),(2,0),(3,0),(4,0),(5,0),(6,0),(7,0),(8,2),(9,0)]).seq (C2.cond (t 26) ((ops 0 [cO 4 (mov ay)]).seq ret) skip))).seq (ops 0 [cO 15 (cM 5),cO 16 (cB .add (t 15) (cN 1)),cO 5 (cM 16)]))).loop)).seq ((ops 0 [cO 4 (mov aO)]).seq ret)))))
theorem zR:Is Try.prog 27 b27:=Is.mk' Try.func27 (by kernel_rfl)
def b28:F2:=(F2.mk 13 [RV.cn 2 1,RV.t 3] ((ops 0 [cO 2 (alloc (AV.agg [AV.esl])),cO 3 (mov (cN 0))]).seq ((ops 0 [cO 5 (cM 0),cO 6 (call (cF 18) [t 5]),cO 4 (alloc (AV.agg [AV.esl])),Op2.mk none none (Ins.st 1 (t 4) (t 6))]).seq (((ops 0 [cO 7 (fa 0 (t 4)),cO 8 (cD 7),cO 9 (lenS (t 8)),cO 10 (cB .gtr (t 9) (cN 4096))]).seq (C2.cond (t 10) ((ops 0 [cO 11 (bld [AV.esl] []),Op2.mk none none (Ins.st 1 (t 2) (t 11)),cO 3 (mov (cN 5))]).seq ret) skip)).seq ((ops 0 [cO 12 (ldn 1 (t 4)),Op2.mk none none (Ins.st 1 (t 2) (t 12)),cO 3 (mov (cN 0))]).seq ret)))))
theorem zN:Is Try.prog 28 b28:=Is.mk' Try.func28 (by kernel_rfl)
def b29:F2:=(F2.mk 31 [RV.t 2,RV.t 3] ((ops 0 [cO 1 (box (t 0)),cO 2 (mov (c AV.nilm)),cO 3 (mov (cN 0))]).seq (((ops 0 [cO 8 (ldn 2 (t 1)),cO 9 (call (cF 53) [t 8]),cO 4 (cM 9)]).seq ((ops 0 [cO 10 (cM 4),cO 11 (cB .neq (t 10) (cN 0))]).seq (C2.cond (t 11) ((ops 0 [cO 12 (cM 4),cO 2 (mov (c AV.nilm)),cO 3 (cM 12)]).seq ret) skip))).seq ((ops 0 [cO 13 (mkm none),cO 5 (cM 13)]).seq (((ops 0 [cO 14 (fa 0 (t 1)),cO 15 (cD 14),cO 16 (lenS (t 15)),cO 17 (mov (cN 0))]).seq (block 0 ((ops 0 [cO 18 (cB .lss (t 17) (t 16))]).seq ((C2.cond (t 18) skip (exit 0)).seq ((block 1 ((ops 0 [cO 19 (cM 17),cO 20 (ixaS 2 (t 15) (t 17)),cO 21 (ldn 2 (t 20)),cO 7 (alloc (AV.agg [AV.int IntKind.i64 (0),AV.int IntKind.i64 (0)])),cO 6 (cM 19),Op2.mk none none (Ins.st 2 (t 7) (t 21))]).seq (mixS 9 [cO 22 (cM 5),cO 23 (ldn 2 (t 7)),cO 24 (fa 1 (t 1)),cO 25 (cD 24),cO 26 (cM 6),cO 27 (ixaS 2 (t 25) (t 26)),cO 28 (ldn 2 (t 27)),Op2.mk none none (mput (MK.st [int,int]) (t 22) (t 23) (t 28))] [(0,0),(1,0),(2,0),(3,0),(4,0),(5,0),(6,0),(7,2)]))).seq (ops 0 [cO 29 (cB .add (t 17) (cN 1)),cO 17 (cM 29)])))).loop)).seq ((ops 0 [cO 30 (cM 5),cO 2 (cM 30),cO 3 (mov (cN 0))]).seq ret))))))
theorem zX:Is Try.prog 29 b29:=Is.mk' Try.func29 (by kernel_rfl)
def b30:F2:=(F2.mk 60 [RV.t 2] ((ops 0 [cO 1 (box (t 0)),cO 2 (mov (cN 0))]).seq (((ops 0 [cO 9 (fa 0 (t 1)),cO 10 (cD 9),cO 11 (lenS (t 10)),cO 12 (cB .gtr (t 11) (cN 4096))]).seq (C2.cond (t 12) ((ops 0 [cO 2 (mov (cN 5))]).seq ret) skip)).seq (((ops 0 [cO 13 (fa 0 (t 1)),cO 14 (cD 13),cO 15 (lenS (t 14)),cO 16 (mov (cN 0))]).seq (block 0 ((ops 0 [cO 17 (cB .lss (t 16) (t 15))]).seq ((C2.cond (t 17) skip (exit 0)).seq ((block 1 ((ops 0 [cO 18 (cM 16),cO 19 (ixaS 1 (t 14) (t 16)),cO 20 (cD 19),cO 3 (cM 18),cO 4 (cM 20)]).seq (((ops 0 [cO 21 (cM 4),cO 22 (call (cF 37) [t 21]),cO 5 (cM 22)]).seq ((ops 0 [cO 23 (cM 5),cO 24 (cB .neq (t 23) (cN 0))]).seq (C2.cond (t 24) ((ops 0 [cO 25 (cM 5),cO 2 (cM 25)]).seq ret) skip))).seq ((ops 0 [cO 26 (cM 3),cO 27 (cB .gtr (t 26) (cN 0)),cO 28 (cM 27),cG 29 28 true (fa 0 (t 1)),cG 30 28 true (cD 29),cG 31 28 true (cM 3),cG 32 28 true (cB .sub (t 31) (cN 1)),cG 33 28 true (ixaS 1 (t 30) (t 32)),cG 34 28 true (cD 33),cG 35 28 true (cM 4),cG 36 28 true (call (cF 42) [t 34,t 35]),cG 37 28 true (cB .geq (t 36) (cN 0)),cO 38 (pick (t 28) (t 37) ay)]).seq (C2.cond (t 38) ((ops 0 [cO 2 (mov (cN 14))]).seq ret) skip))))).seq (ops 0 [cO 39 (cB .add (t 16) (cN 1)),cO 16 (cM 39)])))).loop)).seq ((ops 0 [cO 40 (fa 0 (t 1)),cO 41 (cD 40),cO 42 (call (cF 24) [t 41]),cO 6 (cM 42)]).seq (((ops 0 [cO 43 (fa 0 (t 1)),cO 44 (cD 43),cO 45 (lenS (t 44)),cO 46 (mov (cN 0))]).seq (block 2 ((ops 0 [cO 47 (cB .lss (t 46) (t 45))]).seq ((C2.cond (t 47) skip (exit 2)).seq ((block 3 ((ops 0 [cO 48 (ixaS 1 (t 44) (t 46)),cO 49 (cD 48),cO 8 (cM 49)]).seq ((mixS 9 [cO 50 (fa 0 (t 1)),cO 51 (cD 50),cO 52 (cM 6),cO 53 (cM 8),cO 54 (ixaS 2 (t 53) (cN 0)),cO 55 (ldn 2 (t 54)),cO 56 (Ins.mget (MK.st [int,int]) AV.esl false (t 52) (t 55)),cO 57 (cM 8),cO 58 (call (cF 44) [t 51,t 56,t 57])] [(0,0),(1,0),(2,0),(3,0),(4,0),(5,0),(7,0),(6,1),(8,2)]).seq (C2.cond (t 58) ((ops 0 [cO 2 (mov (cN 7))]).seq ret) skip)))).seq (ops 0 [cO 59 (cB .add (t 46) (cN 1)),cO 46 (cM 59)])))).loop)).seq ((ops 0 [cO 2 (mov (cN 0))]).seq ret)))))))
theorem y1:Is Try.prog 30 b30:=Is.mk' Try.func30 (by kernel_rfl)
def b31:F2:=(F2.mk 32 [RV.t 4,RV.t 5] ((ops 0 [cO 3 (box (t 1)),cO 4 (mov (c AV.esl)),cO 5 (mov ay)]).seq ((ops 0 [cO 6 (mov (c AV.esl))]).seq (((ops 0 [cO 11 (fa 0 (t 3)),cO 12 (cD 11),cO 13 (lenS (t 12)),cO 14 (mov (cN 0))]).seq (block 0 ((ops 0 [cO 15 (cB .lss (t 14) (t 13))]).seq ((C2.cond (t 15) skip (exit 0)).seq ((block 1 ((ops 0 [cO 16 (ixaS 1 (t 12) (t 14)),cO 17 (cD 16),cO 8 (cM 17)]).seq ((ops 0 [cO 19 (cM 0),cO 20 (cM 8),cO 21 (call (cF 54) [t 19,t 20]),cO 18 (cM 21),cO 22 (ext (t 18) 0),cO 23 (ext (t 18) 1),cO 9 (cM 22),cO 10 (cM 23)]).seq (((ops 0 [cO 24 (cM 10),cO 25 (un UnOp.not (t 24))]).seq (C2.cond (t 25) ((ops 0 [cO 4 (mov (c AV.esl)),cO 5 (mov ay)]).seq ret) skip)).seq (ops 0 [cO 26 (cM 6),cO 27 (cM 9),cO 28 (bldS 1 1 [AV.esl] [(0,1,t 27)]),cO 29 (app 1 24 (t 26) (t 28)),cO 6 (cM 29)]))))).seq (ops 0 [cO 30 (cB .add (t 14) (cN 1)),cO 14 (cM 30)])))).loop)).seq ((ops 0 [cO 31 (cM 6),cO 4 (cM 31),cO 5 (mov aO)]).seq ret)))))
theorem Am:Is Try.prog 31 b31:=Is.mk' Try.func31 (by kernel_rfl)
def b32:F2:=(F2.mk 26 [RV.cn 2 1,RV.t 3] ((ops 0 [cO 2 (alloc (AV.agg [AV.esl])),cO 3 (mov (cN 0))]).seq (((ops 0 [cO 7 (cM 0),cO 8 (lenS (t 7)),cO 9 (cB .gtr (t 8) (cN 4096))]).seq (C2.cond (t 9) ((ops 0 [cO 10 (bld [AV.esl] []),Op2.mk none none (Ins.st 1 (t 2) (t 10)),cO 3 (mov (cN 5))]).seq ret) skip)).seq (((ops 0 [cO 11 (cM 0),cO 12 (lenS (t 11)),cO 13 (mov (cN 0))]).seq (block 0 ((ops 0 [cO 14 (cB .lss (t 13) (t 12))]).seq ((C2.cond (t 14) skip (exit 0)).seq ((block 1 ((ops 0 [cO 15 (ixaS 1 (t 11) (t 13)),cO 16 (cD 15),cO 5 (cM 16)]).seq ((ops 0 [cO 17 (cM 5),cO 18 (call (cF 37) [t 17]),cO 6 (cM 18)]).seq ((ops 0 [cO 19 (cM 6),cO 20 (cB .neq (t 19) (cN 0))]).seq (C2.cond (t 20) ((ops 0 [cO 21 (bld [AV.esl] []),cO 22 (cM 6),Op2.mk none none (Ins.st 1 (t 2) (t 21)),cO 3 (cM 22)]).seq ret) skip))))).seq (ops 0 [cO 23 (cB .add (t 13) (cN 1)),cO 13 (cM 23)])))).loop)).seq ((ops 0 [cO 24 (cM 0),cO 25 (call (cF 18) [t 24]),Op2.mk none none (Ins.st 1 (t 2) (t 25)),cO 3 (mov (cN 0))]).seq ret)))))
theorem zT:Is Try.prog 32 b32:=Is.mk' Try.func32 (by kernel_rfl)
def b33:F2:=(F2.mk 19 [RV.t 2] ((ops 0 [cO 2 (mov ay)]).seq (((ops 0 [cO 4 (cM 0),cO 5 (lenS (t 4)),cO 6 (cB .gtr (t 5) (cN 30))]).seq (C2.cond (t 6) ((ops 0 [cO 2 (mov ay)]).seq ret) skip)).seq (((ops 0 [cO 3 (mov (cN 0))]).seq (block 0 (((ops 0 [cO 7 (cM 3),cO 8 (cM 0),cO 9 (lenS (t 8)),cO 10 (cB .lss (t 7) (t 9))]).seq (C2.cond (t 10) skip (exit 0))).seq ((block 1 ((ops 0 [cO 13 (cM 0),cO 14 (cM 3),cO 15 (ixaS 1 (t 13) (t 14)),cO 16 (cD 15),cO 17 (call (cF 55) [t 16]),cO 18 (un UnOp.not (t 17))]).seq (C2.cond (t 18) ((ops 0 [cO 2 (mov ay)]).seq ret) skip))).seq (ops 0 [cO 11 (cM 3),cO 12 (cB .add (t 11) (cN 1)),cO 3 (cM 12)]))).loop)).seq ((ops 0 [cO 2 (mov aO)]).seq ret)))))
theorem An:Is Try.prog 33 b33:=Is.mk' Try.func33 (by kernel_rfl)
def b34:F2:=(F2.mk 39 [RV.t 2] ((ops 0 [cO 2 (mov (cN 0))]).seq ((block 0 ((ops 0 [cO 5 (cM 0),cO 6 (lenS (t 5)),cO 7 (cB .eql (t 6) (cN 0)),cO 4 (cM 7)]).seq (C2.cond (t 4) ((ops 0 [cO 2 (mov (cN 16))]).seq ret) ((ops 0 [cO 9 (cM 0),cO 10 (lenS (t 9)),cO 11 (cB .gtr (t 10) (cN 8)),cO 8 (cM 11)]).seq (C2.cond (t 8) ((ops 0 [cO 2 (mov (cN 5))]).seq ret) skip))))).seq (((ops 0 [cO 3 (mov (cN 0))]).seq (block 1 (((ops 0 [cO 12 (cM 3),cO 13 (cM 0),cO 14 (lenS (t 13)),cO 15 (cB .lss (t 12) (t 14))]).seq (C2.cond (t 15) skip (exit 1))).seq ((block 2 (((ops 0 [cO 18 (cM 0),cO 19 (cM 3),cO 20 (ixaS 2 (t 18) (t 19)),cO 21 (ldn 2 (t 20)),cO 22 (call (cF 56) [t 21]),cO 23 (un UnOp.not (t 22))]).seq (C2.cond (t 23) ((ops 0 [cO 2 (mov (cN 2))]).seq ret) skip)).seq ((mixS 1 [cO 24 (cM 3),cO 25 (cB .gtr (t 24) (cN 0)),cO 26 (cM 25),cG 27 26 true (cM 0),cG 28 26 true (cM 3),cG 29 26 true (cB .sub (t 28) (cN 1)),cG 30 26 true (ixaS 2 (t 27) (t 29)),cG 31 26 true (ldn 2 (t 30)),cG 32 26 true (cM 0),cG 33 26 true (cM 3),cG 34 26 true (ixaS 2 (t 32) (t 33)),cG 35 26 true (ldn 2 (t 34)),cG 36 26 true (call (cF 57) [t 31,t 35]),cG 37 26 true (cB .geq (t 36) (cN 0)),cO 38 (pick (t 26) (t 37) ay)] [(0,0),(1,0),(2,0),(3,0),(4,0),(5,0),(6,0),(7,0),(8,0),(9,0),(10,0),(11,0),(12,2),(13,0),(14,0)]).seq (C2.cond (t 38) ((ops 0 [cO 2 (mov (cN 14))]).seq ret) skip)))).seq (ops 0 [cO 16 (cM 3),cO 17 (cB .add (t 16) (cN 1)),cO 3 (cM 17)]))).loop)).seq ((ops 0 [cO 2 (mov (cN 0))]).seq ret)))))
theorem zV:Is Try.prog 34 b34:=Is.mk' Try.func34 (by kernel_rfl)
def b35:F2:=(F2.mk 43 [RV.t 4] ((ops 0 [cO 4 (mov (cN 0))]).seq (((ops 0 [cO 5 (mov (cN 0))]).seq (block 0 (((ops 0 [cO 7 (cM 5),cO 8 (cM 0),cO 9 (lenS (t 8)),cO 10 (cB .lss (t 7) (t 9)),cO 11 (cM 10),cG 12 11 true (cM 5),cG 13 11 true (cM 1),cG 14 11 true (lenS (t 13)),cG 15 11 true (cB .lss (t 12) (t 14)),cO 16 (pick (t 11) (t 15) ay)]).seq (C2.cond (t 16) skip (exit 0))).seq ((block 1 ((mixS 1 [cO 19 (cM 0),cO 20 (cM 5),cO 21 (ixaS 2 (t 19) (t 20)),cO 22 (ldn 2 (t 21)),cO 23 (cM 1),cO 24 (cM 5),cO 25 (ixaS 2 (t 23) (t 24)),cO 26 (ldn 2 (t 25)),cO 27 (call (cF 57) [t 22,t 26]),cO 6 (cM 27)] [(0,0),(1,0),(2,0),(3,0),(4,0),(5,0),(6,0),(7,0),(8,2),(9,0)]).seq ((ops 0 [cO 28 (cM 6),cO 29 (cB .neq (t 28) (cN 0))]).seq (C2.cond (t 29) ((ops 0 [cO 30 (cM 6),cO 4 (cM 30)]).seq ret) skip)))).seq (ops 0 [cO 17 (cM 5),cO 18 (cB .add (t 17) (cN 1)),cO 5 (cM 18)]))).loop)).seq ((block 2 ((ops 0 [cO 32 (cM 0),cO 33 (lenS (t 32)),cO 34 (cM 1),cO 35 (lenS (t 34)),cO 36 (cB .lss (t 33) (t 35)),cO 31 (cM 36)]).seq (C2.cond (t 31) ((ops 0 [cO 4 (mov (cN ((-1))))]).seq ret) ((ops 0 [cO 38 (cM 0),cO 39 (lenS (t 38)),cO 40 (cM 1),cO 41 (lenS (t 40)),cO 42 (cB .gtr (t 39) (t 41)),cO 37 (cM 42)]).seq (C2.cond (t 37) ((ops 0 [cO 4 (mov (cN 1))]).seq ret) skip))))).seq ((ops 0 [cO 4 (mov (cN 0))]).seq ret)))))
theorem z6:Is Try.prog 35 b35:=Is.mk' Try.func35 (by kernel_rfl)
def b36:F2:=(F2.mk 19 [RV.t 4] ((ops 0 [cO 4 (mov ay)]).seq (((ops 0 [cO 5 (mov (cN 0))]).seq (block 0 (((ops 0 [cO 6 (cM 5),cO 7 (cM 0),cO 8 (lenS (t 7)),cO 9 (cB .lss (t 6) (t 8))]).seq (C2.cond (t 9) skip (exit 0))).seq ((block 1 ((ops 0 [cO 12 (cM 1),cO 13 (cM 0),cO 14 (cM 5),cO 15 (ixaS 2 (t 13) (t 14)),cO 16 (ldn 2 (t 15)),cO 17 (call (cF 58) [t 12,t 16]),cO 18 (un UnOp.not (t 17))]).seq (C2.cond (t 18) ((ops 0 [cO 4 (mov ay)]).seq ret) skip))).seq (ops 0 [cO 10 (cM 5),cO 11 (cB .add (t 10) (cN 1)),cO 5 (cM 11)]))).loop)).seq ((ops 0 [cO 4 (mov aO)]).seq ret))))
theorem zQ:Is Try.prog 36 b36:=Is.mk' Try.func36 (by kernel_rfl)
def b37:F2:=(F2.mk 36 [RV.t 2] ((ops 0 [cO 2 (mov (cN 0))]).seq ((block 0 ((ops 0 [cO 6 (cM 0),cO 7 (lenS (t 6)),cO 8 (cB .eql (t 7) (cN 0)),cO 5 (cM 8)]).seq (C2.cond (t 5) ((ops 0 [cO 2 (mov (cN 16))]).seq ret) ((ops 0 [cO 10 (cM 0),cO 11 (lenS (t 10)),cO 12 (cB .gtr (t 11) (cN 8)),cO 9 (cM 12)]).seq (C2.cond (t 9) ((ops 0 [cO 2 (mov (cN 5))]).seq ret) skip))))).seq (((ops 0 [cO 13 (cM 0),cO 14 (lenS (t 13)),cO 15 (mov (cN 0))]).seq (block 1 ((ops 0 [cO 16 (cB .lss (t 15) (t 14))]).seq ((C2.cond (t 16) skip (exit 1)).seq ((block 2 ((ops 0 [cO 17 (cM 15),cO 18 (ixaS 2 (t 13) (t 15)),cO 19 (ldn 2 (t 18)),cO 4 (alloc (AV.agg [AV.int IntKind.i64 (0),AV.int IntKind.i64 (0)])),cO 3 (cM 17),Op2.mk none none (Ins.st 2 (t 4) (t 19))]).seq (((ops 0 [cO 20 (ldn 2 (t 4)),cO 21 (call (cF 59) [t 20]),cO 22 (un UnOp.not (t 21))]).seq (C2.cond (t 22) ((ops 0 [cO 2 (mov (cN 2))]).seq ret) skip)).seq ((mixS 1 [cO 23 (cM 3),cO 24 (cB .gtr (t 23) (cN 0)),cO 25 (cM 24),cG 26 25 true (cM 0),cG 27 25 true (cM 3),cG 28 25 true (cB .sub (t 27) (cN 1)),cG 29 25 true (ixaS 2 (t 26) (t 28)),cG 30 25 true (ldn 2 (t 29)),cG 31 25 true (ldn 2 (t 4)),cG 32 25 true (call (cF 60) [t 30,t 31]),cG 33 25 true (cB .geq (t 32) (cN 0)),cO 34 (pick (t 25) (t 33) ay)] [(0,0),(1,0),(2,0),(3,0),(4,0),(5,0),(6,0),(7,0),(8,0),(9,2),(10,0),(11,0)]).seq (C2.cond (t 34) ((ops 0 [cO 2 (mov (cN 14))]).seq ret) skip))))).seq (ops 0 [cO 35 (cB .add (t 15) (cN 1)),cO 15 (cM 35)])))).loop)).seq ((ops 0 [cO 2 (mov (cN 0))]).seq ret)))))
theorem yD:Is Try.prog 37 b37:=Is.mk' Try.func37 (by kernel_rfl)
def b38:F2:=(F2.mk 23 [RV.t 4] ((ops 0 [cO 4 (mov (c AV.esl))]).seq ((ops 0 [cO 5 (mov (c AV.esl))]).seq (((ops 0 [cO 8 (cM 0),cO 9 (lenS (t 8)),cO 10 (mov (cN 0))]).seq (block 0 ((ops 0 [cO 11 (cB .lss (t 10) (t 9))]).seq ((C2.cond (t 11) skip (exit 0)).seq ((block 1 ((ops 0 [cO 12 (ixaS 1 (t 8) (t 10)),cO 13 (cD 12),cO 7 (cM 13)]).seq ((ops 0 [cO 14 (cM 1),cO 15 (cM 7),cO 16 (call (t 14) [t 15])]).seq (C2.cond (t 16) (ops 0 [cO 17 (cM 5),cO 18 (cM 7),cO 19 (bldS 1 1 [AV.esl] [(0,1,t 18)]),cO 20 (app 1 24 (t 17) (t 19)),cO 5 (cM 20)]) skip)))).seq (ops 0 [cO 21 (cB .add (t 10) (cN 1)),cO 10 (cM 21)])))).loop)).seq ((ops 0 [cO 22 (cM 5),cO 4 (cM 22)]).seq ret)))))
theorem xb:Is Try.prog 38 b38:=Is.mk' Try.func38 (by kernel_rfl)
def b39:F2:=(F2.mk 7 [RV.t 3] ((ops 0 [cO 3 (mov ay)]).seq ((ops 0 [cO 4 (cD 1),cO 5 (cM 0),cO 6 (call (cF 40) [t 4,t 5]),cO 3 (cM 6)]).seq ret)))
theorem zJ:Is Try.prog 39 b39:=Is.mk' Try.func39 (by kernel_rfl)
def b40:F2:=(F2.mk 29 [RV.t 4] ((ops 0 [cO 4 (mov ay)]).seq (((ops 0 [cO 7 (cM 0),cO 8 (lenS (t 7)),cO 9 (mov (cN 0))]).seq (block 0 ((ops 0 [cO 10 (cB .lss (t 9) (t 8))]).seq ((C2.cond (t 10) skip (exit 0)).seq ((block 1 ((ops 0 [cO 11 (ixaS 2 (t 7) (t 9)),cO 12 (ldn 2 (t 11)),cO 6 (alloc (AV.agg [AV.int IntKind.i64 (0),AV.int IntKind.i64 (0)])),Op2.mk none none (Ins.st 2 (t 6) (t 12))]).seq ((block 2 (((ops 1 [cO 13 (cM 1),cO 14 (lenS (t 13)),cO 15 (cB .gtr (t 14) (cN 0)),cO 16 (cM 15),cG 17 16 true (cM 1),cG 18 16 true (ixaS 2 (t 17) (cN 0)),cG 19 16 true (ldn 2 (t 18)),cG 20 16 true (ldn 2 (t 6)),cG 21 16 true (binS BinOp.neq [int,int] (t 19) (t 20)),cO 22 (pick (t 16) (t 21) ay)]).seq (C2.cond (t 22) skip (exit 2))).seq (block 3 (ops 0 [cO 23 (cM 1),cO 24 (sls 2 (t 23) (some (cN 1)) none none),cO 1 (cM 24)]))).loop).seq ((ops 0 [cO 25 (cM 1),cO 26 (lenS (t 25)),cO 27 (cB .eql (t 26) (cN 0))]).seq (C2.cond (t 27) ((ops 0 [cO 4 (mov ay)]).seq ret) skip))))).seq (ops 0 [cO 28 (cB .add (t 9) (cN 1)),cO 9 (cM 28)])))).loop)).seq ((ops 0 [cO 4 (mov aO)]).seq ret))))
theorem yM:Is Try.prog 40 b40:=Is.mk' Try.func40 (by kernel_rfl)
def b41:F2:=(F2.mk 14 [] ((ops 0 [cO 5 (cM 0),cO 6 (lenS (t 5)),cO 4 (cM 6)]).seq (ops 0 [cO 7 (cM 0),cO 8 (cM 4),cO 9 (cM 4),cO 10 (conv IntKind.u64 (t 9)),cO 11 (call (cF 62) [t 10]),cO 12 (cM 1),cO 13 (call (cF 61) [t 7,cN ((0)),t 8,t 11,t 12])])))
theorem xQ:Is Try.prog 41 b41:=Is.mk' Try.func41 (by kernel_rfl)
def b42:F2:=(F2.mk 8 [RV.t 4] ((ops 0 [cO 4 (mov (cN 0))]).seq ((ops 0 [cO 5 (cM 0),cO 6 (cM 1),cO 7 (call (cF 63) [t 5,t 6,c (AV.func 60 [])]),cO 4 (cM 7)]).seq ret)))
theorem zr:Is Try.prog 42 b42:=Is.mk' Try.func42 (by kernel_rfl)
def b43:F2:=(F2.mk 66 [RV.t 4] ((ops 0 [cO 4 (mov (c AV.esl))]).seq (((ops 0 [cO 8 (cM 0),cO 9 (lenS (t 8)),cO 10 (cB .lss (t 9) (cN 2))]).seq (C2.cond (t 10) ((ops 0 [cO 11 (cM 0),cO 4 (cM 11)]).seq ret) skip)).seq (((ops 0 [cO 5 (mov (cN 1))]).seq (block 0 (((ops 0 [cO 12 (cM 5),cO 13 (cM 0),cO 14 (lenS (t 13)),cO 15 (cB .lss (t 12) (t 14))]).seq (C2.cond (t 15) skip (exit 0))).seq ((block 1 ((mixS 1 [cO 18 (cM 1),cO 19 (cM 0),cO 20 (cM 5),cO 21 (ixaS 1 (t 19) (t 20)),cO 22 (cD 21),cO 23 (cM 0),cO 24 (cM 5),cO 25 (cB .sub (t 24) (cN 1)),cO 26 (ixaS 1 (t 23) (t 25)),cO 27 (cD 26),cO 28 (call (t 18) [t 22,t 27])] [(0,0),(1,0),(2,0),(3,0),(4,0),(5,0),(6,0),(7,0),(8,0),(9,0),(10,2)]).seq (C2.cond (t 28) ((ops 0 [cO 29 (cM 0),cO 30 (cM 5),cO 31 (sls 1 (t 29) (some (t 30)) none none),cO 6 (cM 31)]).seq (((ops 0 [cO 7 (mov (cN 1))]).seq (block 2 (((ops 0 [cO 32 (cM 7),cO 33 (cM 6),cO 34 (lenS (t 33)),cO 35 (cB .lss (t 32) (t 34))]).seq (C2.cond (t 35) skip (exit 2))).seq ((block 3 ((mixS 1 [cO 38 (cM 1),cO 39 (cM 6),cO 40 (cM 7),cO 41 (ixaS 1 (t 39) (t 40)),cO 42 (cD 41),cO 43 (cM 6),cO 44 (cM 7),cO 45 (cB .sub (t 44) (cN 1)),cO 46 (ixaS 1 (t 43) (t 45)),cO 47 (cD 46),cO 48 (call (t 38) [t 42,t 47]),cO 49 (un UnOp.not (t 48))] [(0,0),(1,0),(2,0),(3,0),(4,0),(5,0),(6,0),(7,0),(8,0),(9,0),(10,2),(11,0)]).seq (C2.cond (t 49) ((ops 0 [cO 50 (cM 0),cO 51 (cM 5),cO 52 (cM 6),cO 53 (cM 7),cO 54 (ixaS 1 (t 52) (t 53)),cO 55 (cD 54),cO 56 (ixaS 1 (t 50) (t 51)),Op2.mk none none (Ins.st 1 (t 56) (t 55))]).seq (ops 0 [cO 57 (cM 5),cO 58 (cB .add (t 57) (cN 1)),cO 5 (cM 58)])) skip))).seq (ops 0 [cO 36 (cM 7),cO 37 (cB .add (t 36) (cN 1)),cO 7 (cM 37)]))).loop)).seq ((ops 0 [cO 59 (cM 0),cO 60 (cM 5),cO 61 (sls 1 (t 59) (some (t 60)) none none),Op2.mk none none (clr 1 AV.esl (t 61))]).seq ((ops 0 [cO 62 (cM 0),cO 63 (cM 5),cO 64 (sls 1 (t 62) none (some (t 63)) none),cO 4 (cM 64)]).seq ret)))) skip))).seq (ops 0 [cO 16 (cM 5),cO 17 (cB .add (t 16) (cN 1)),cO 5 (cM 17)]))).loop)).seq ((ops 0 [cO 65 (cM 0),cO 4 (cM 65)]).seq ret)))))
theorem xk:Is Try.prog 43 b43:=Is.mk' Try.func43 (by kernel_rfl)
def b44:F2:=(F2.mk 10 [RV.t 6] ((ops 0 [cO 3 (box (t 0)),cO 5 (box (t 2)),cO 6 (mov ay)]).seq ((ops 0 [cO 7 (cM 1),cO 8 (mkfn 65 [t 3,t 5]),cO 9 (call (cF 64) [t 7,t 8]),cO 6 (cM 9)]).seq ret)))
theorem yr:Is Try.prog 44 b44:=Is.mk' Try.func44 (by kernel_rfl)
def b45:F2:=(F2.mk 8 [RV.t 2] ((ops 0 [cO 2 (mov (c AV.esl))]).seq (((ops 0 [cO 3 (cM 0),cO 4 (snil false (t 3))]).seq (C2.cond (t 4) ((ops 0 [cO 2 (mov (c AV.esl))]).seq ret) skip)).seq ((ops 0 [cO 5 (bldS 2 0 [AV.int IntKind.i64 (0),AV.int IntKind.i64 (0)] []),cO 6 (cM 0),cO 7 (app 2 16 (t 5) (t 6)),cO 2 (cM 7)]).seq ret))))
theorem ye:Is Try.prog 45 b45:=Is.mk' Try.func45 (by kernel_rfl)
def b46:F2:=(F2.mk 23 [RV.t 4] ((ops 0 [cO 4 (mov (c AV.esl))]).seq ((ops 0 [cO 5 (mov (c AV.esl))]).seq (((ops 0 [cO 8 (cM 0),cO 9 (lenS (t 8)),cO 10 (mov (cN 0))]).seq (block 0 ((ops 0 [cO 11 (cB .lss (t 10) (t 9))]).seq ((C2.cond (t 11) skip (exit 0)).seq ((block 1 ((ops 0 [cO 12 (ixaS 2 (t 8) (t 10)),cO 13 (ldn 2 (t 12)),cO 7 (alloc (AV.agg [AV.int IntKind.i64 (0),AV.int IntKind.i64 (0)])),Op2.mk none none (Ins.st 2 (t 7) (t 13))]).seq ((ops 0 [cO 14 (cM 1),cO 15 (ldn 2 (t 7)),cO 16 (call (t 14) [t 15])]).seq (C2.cond (t 16) (ops 0 [cO 17 (cM 5),cO 18 (ldn 2 (t 7)),cO 19 (bldS 2 1 [AV.int IntKind.i64 (0),AV.int IntKind.i64 (0)] [(0,2,t 18)]),cO 20 (app 2 16 (t 17) (t 19)),cO 5 (cM 20)]) skip)))).seq (ops 0 [cO 21 (cB .add (t 10) (cN 1)),cO 10 (cM 21)])))).loop)).seq ((ops 0 [cO 22 (cM 5),cO 4 (cM 22)]).seq ret)))))
theorem yf:Is Try.prog 46 b46:=Is.mk' Try.func46 (by kernel_rfl)
def b47:F2:=(F2.mk 19 [RV.t 4] ((ops 0 [cO 3 (box (t 1)),cO 4 (mov (cN 0))]).seq (((ops 0 [cO 6 (cM 0),cO 7 (lenS (t 6)),cO 8 (mov (cN 0))]).seq (block 0 ((ops 0 [cO 9 (cB .lss (t 8) (t 7))]).seq ((C2.cond (t 9) skip (exit 0)).seq ((block 1 ((ops 0 [cO 10 (cM 8),cO 5 (cM 10)]).seq ((ops 1 [cO 11 (ldn 2 (t 3)),cO 12 (cM 0),cO 13 (cM 5),cO 14 (ixaS 2 (t 12) (t 13)),cO 15 (ldn 2 (t 14)),cO 16 (binS BinOp.eql [int,int] (t 11) (t 15))]).seq (C2.cond (t 16) ((ops 0 [cO 17 (cM 5),cO 4 (cM 17)]).seq ret) skip)))).seq (ops 0 [cO 18 (cB .add (t 8) (cN 1)),cO 8 (cM 18)])))).loop)).seq ((ops 0 [cO 4 (mov (cN ((-1))))]).seq ret))))
theorem zy:Is Try.prog 47 b47:=Is.mk' Try.func47 (by kernel_rfl)
def b48:F2:=(F2.mk 36 [RV.t 2] ((ops 0 [cO 2 (mov (c AV.esl))]).seq ((ops 0 [cO 3 (mov (cN 0))]).seq (((ops 0 [cO 9 (cM 0),cO 10 (lenS (t 9)),cO 11 (mov (cN 0))]).seq (block 0 ((ops 0 [cO 12 (cB .lss (t 11) (t 10))]).seq ((C2.cond (t 12) skip (exit 0)).seq ((block 1 ((ops 0 [cO 13 (ixaS 1 (t 9) (t 11)),cO 14 (cD 13),cO 5 (cM 14)]).seq ((ops 0 [cO 15 (cM 3),cO 16 (cM 5),cO 17 (lenS (t 16)),cO 18 (cB .add (t 15) (t 17)),cO 3 (cM 18)]).seq ((ops 0 [cO 19 (cM 3),cO 20 (cB .lss (t 19) (cN 0))]).seq (C2.cond (t 20) (ops 0 [cO 21 dead,Op2.mk none none dead]) skip))))).seq (ops 0 [cO 22 (cB .add (t 11) (cN 1)),cO 11 (cM 22)])))).loop)).seq ((ops 0 [cO 23 (cM 3),cO 24 (call (cF 66) [c AV.esl,t 23]),cO 6 (cM 24)]).seq (((ops 0 [cO 25 (cM 0),cO 26 (lenS (t 25)),cO 27 (mov (cN 0))]).seq (block 2 ((ops 0 [cO 28 (cB .lss (t 27) (t 26))]).seq ((C2.cond (t 28) skip (exit 2)).seq ((block 3 ((ops 0 [cO 29 (ixaS 1 (t 25) (t 27)),cO 30 (cD 29),cO 8 (cM 30)]).seq (ops 0 [cO 31 (cM 6),cO 32 (cM 8),cO 33 (app 2 16 (t 31) (t 32)),cO 6 (cM 33)]))).seq (ops 0 [cO 34 (cB .add (t 27) (cN 1)),cO 27 (cM 34)])))).loop)).seq ((ops 0 [cO 35 (cM 6),cO 2 (cM 35)]).seq ret)))))))
theorem zK:Is Try.prog 48 b48:=Is.mk' Try.func48 (by kernel_rfl)
def b49:F2:=(F2.mk 14 [] ((ops 0 [cO 5 (cM 0),cO 6 (lenS (t 5)),cO 4 (cM 6)]).seq (ops 0 [cO 7 (cM 0),cO 8 (cM 4),cO 9 (cM 4),cO 10 (conv IntKind.u64 (t 9)),cO 11 (call (cF 62) [t 10]),cO 12 (cM 1),cO 13 (call (cF 67) [t 7,cN ((0)),t 8,t 11,t 12])])))
theorem xU:Is Try.prog 49 b49:=Is.mk' Try.func49 (by kernel_rfl)
def b50:F2:=(F2.mk 10 [RV.t 4] ((ops 0 [cO 2 (box (t 0)),cO 3 (box (t 1)),cO 4 (mov (cN 0))]).seq ((ops 0 [cO 5 (ldn 2 (t 2)),cO 6 (bldS 2 1 [AV.int IntKind.i64 (0),AV.int IntKind.i64 (0)] [(0,2,t 5)]),cO 7 (ldn 2 (t 3)),cO 8 (bldS 2 1 [AV.int IntKind.i64 (0),AV.int IntKind.i64 (0)] [(0,2,t 7)]),cO 9 (call (cF 42) [t 6,t 8]),cO 4 (cM 9)]).seq ret)))
theorem Ab:Is Try.prog 50 b50:=Is.mk' Try.func50 (by kernel_rfl)
def b51:F2:=(F2.mk 61 [RV.t 2] ((ops 0 [cO 2 (mov (c AV.esl))]).seq (((ops 0 [cO 6 (cM 0),cO 7 (lenS (t 6)),cO 8 (cB .lss (t 7) (cN 2))]).seq (C2.cond (t 8) ((ops 0 [cO 9 (cM 0),cO 2 (cM 9)]).seq ret) skip)).seq (((ops 0 [cO 3 (mov (cN 1))]).seq (block 0 (((ops 0 [cO 10 (cM 3),cO 11 (cM 0),cO 12 (lenS (t 11)),cO 13 (cB .lss (t 10) (t 12))]).seq (C2.cond (t 13) skip (exit 0))).seq ((block 1 ((ops 1 [cO 16 (cM 0),cO 17 (cM 3),cO 18 (ixaS 2 (t 16) (t 17)),cO 19 (ldn 2 (t 18)),cO 20 (cM 0),cO 21 (cM 3),cO 22 (cB .sub (t 21) (cN 1)),cO 23 (ixaS 2 (t 20) (t 22)),cO 24 (ldn 2 (t 23)),cO 25 (binS BinOp.eql [int,int] (t 19) (t 24))]).seq (C2.cond (t 25) ((ops 0 [cO 26 (cM 0),cO 27 (cM 3),cO 28 (sls 2 (t 26) (some (t 27)) none none),cO 4 (cM 28)]).seq (((ops 0 [cO 5 (mov (cN 1))]).seq (block 2 (((ops 0 [cO 29 (cM 5),cO 30 (cM 4),cO 31 (lenS (t 30)),cO 32 (cB .lss (t 29) (t 31))]).seq (C2.cond (t 32) skip (exit 2))).seq ((block 3 ((ops 1 [cO 35 (cM 4),cO 36 (cM 5),cO 37 (ixaS 2 (t 35) (t 36)),cO 38 (ldn 2 (t 37)),cO 39 (cM 4),cO 40 (cM 5),cO 41 (cB .sub (t 40) (cN 1)),cO 42 (ixaS 2 (t 39) (t 41)),cO 43 (ldn 2 (t 42)),cO 44 (binS BinOp.neq [int,int] (t 38) (t 43))]).seq (C2.cond (t 44) ((ops 0 [cO 45 (cM 0),cO 46 (cM 3),cO 47 (cM 4),cO 48 (cM 5),cO 49 (ixaS 2 (t 47) (t 48)),cO 50 (ldn 2 (t 49)),cO 51 (ixaS 2 (t 45) (t 46)),Op2.mk none none (Ins.st 2 (t 51) (t 50))]).seq (ops 0 [cO 52 (cM 3),cO 53 (cB .add (t 52) (cN 1)),cO 3 (cM 53)])) skip))).seq (ops 0 [cO 33 (cM 5),cO 34 (cB .add (t 33) (cN 1)),cO 5 (cM 34)]))).loop)).seq ((ops 0 [cO 54 (cM 0),cO 55 (cM 3),cO 56 (sls 2 (t 54) (some (t 55)) none none),Op2.mk none none (clr 2 (AV.agg [AV.int IntKind.i64 (0),AV.int IntKind.i64 (0)]) (t 56))]).seq ((ops 0 [cO 57 (cM 0),cO 58 (cM 3),cO 59 (sls 2 (t 57) none (some (t 58)) none),cO 2 (cM 59)]).seq ret)))) skip))).seq (ops 0 [cO 14 (cM 3),cO 15 (cB .add (t 14) (cN 1)),cO 3 (cM 15)]))).loop)).seq ((ops 0 [cO 60 (cM 0),cO 2 (cM 60)]).seq ret)))))
theorem xd:Is Try.prog 51 b51:=Is.mk' Try.func51 (by kernel_rfl)
def b52:F2:=(F2.mk 9 [RV.t 4] ((ops 0 [cO 4 (mov ay)]).seq ((ops 0 [cO 5 (cM 0),cO 6 (cM 1),cO 7 (call (cF 35) [t 5,t 6]),cO 8 (cB .eql (t 7) (cN 0)),cO 4 (cM 8)]).seq ret)))
theorem Ap:Is Try.prog 52 b52:=Is.mk' Try.func52 (by kernel_rfl)
def b53:F2:=(F2.mk 54 [RV.t 2] ((ops 0 [cO 1 (box (t 0)),cO 2 (mov (cN 0))]).seq ((block 0 ((ops 0 [cO 6 (fa 0 (t 1)),cO 7 (cD 6),cO 8 (lenS (t 7)),cO 9 (cB .gtr (t 8) (cN 4096)),cO 5 (cM 9)]).seq (C2.cond (t 5) ((ops 0 [cO 2 (mov (cN 5))]).seq ret) ((ops 0 [cO 11 (fa 1 (t 1)),cO 12 (cD 11),cO 13 (lenS (t 12)),cO 14 (fa 0 (t 1)),cO 15 (cD 14),cO 16 (lenS (t 15)),cO 17 (cB .neq (t 13) (t 16)),cO 10 (cM 17)]).seq (C2.cond (t 10) ((ops 0 [cO 2 (mov (cN 15))]).seq ret) skip))))).seq (((ops 0 [cO 18 (fa 0 (t 1)),cO 19 (cD 18),cO 20 (lenS (t 19)),cO 21 (mov (cN 0))]).seq (block 1 ((ops 0 [cO 22 (cB .lss (t 21) (t 20))]).seq ((C2.cond (t 22) skip (exit 1)).seq ((block 2 ((ops 0 [cO 23 (cM 21),cO 24 (ixaS 2 (t 19) (t 21)),cO 25 (ldn 2 (t 24)),cO 4 (alloc (AV.agg [AV.int IntKind.i64 (0),AV.int IntKind.i64 (0)])),cO 3 (cM 23),Op2.mk none none (Ins.st 2 (t 4) (t 25))]).seq (block 3 ((ops 0 [cO 27 (ldn 2 (t 4)),cO 28 (call (cF 68) [t 27]),cO 29 (un UnOp.not (t 28)),cO 30 (cM 29),cG 31 30 false (fa 1 (t 1)),cG 32 30 false (cD 31),cG 33 30 false (cM 3),cG 34 30 false (ixaS 2 (t 32) (t 33)),cG 35 30 false (ldn 2 (t 34)),cG 36 30 false (call (cF 68) [t 35]),cG 37 30 false (un UnOp.not (t 36)),cO 38 (pick (t 30) aO (t 37)),cO 26 (cM 38)]).seq (C2.cond (t 26) ((ops 0 [cO 2 (mov (cN 2))]).seq ret) ((mixS 1 [cO 40 (cM 3),cO 41 (cB .gtr (t 40) (cN 0)),cO 42 (cM 41),cG 43 42 true (fa 0 (t 1)),cG 44 42 true (cD 43),cG 45 42 true (cM 3),cG 46 42 true (cB .sub (t 45) (cN 1)),cG 47 42 true (ixaS 2 (t 44) (t 46)),cG 48 42 true (ldn 2 (t 47)),cG 49 42 true (ldn 2 (t 4)),cG 50 42 true (call (cF 69) [t 48,t 49]),cG 51 42 true (cB .geq (t 50) (cN 0)),cO 52 (pick (t 42) (t 51) ay),cO 39 (cM 52)] [(0,0),(1,0),(2,0),(3,0),(4,0),(5,0),(6,0),(7,0),(8,0),(9,0),(10,2),(11,0),(12,0),(13,0)]).seq (C2.cond (t 39) ((ops 0 [cO 2 (mov (cN 14))]).seq ret) skip))))))).seq (ops 0 [cO 53 (cB .add (t 21) (cN 1)),cO 21 (cM 53)])))).loop)).seq ((ops 0 [cO 2 (mov (cN 0))]).seq ret)))))
theorem Ak:Is Try.prog 53 b53:=Is.mk' Try.func53 (by kernel_rfl)
def b54:F2:=(F2.mk 34 [RV.t 4,RV.t 5] ((ops 0 [cO 4 (mov (c AV.esl)),cO 5 (mov ay)]).seq ((ops 0 [cO 6 (mov (c AV.esl))]).seq (((ops 0 [cO 11 (cM 1),cO 12 (lenS (t 11)),cO 13 (mov (cN 0))]).seq (block 0 ((ops 0 [cO 14 (cB .lss (t 13) (t 12))]).seq ((C2.cond (t 14) skip (exit 0)).seq ((block 1 ((ops 0 [cO 15 (ixaS 2 (t 11) (t 13)),cO 16 (ldn 2 (t 15)),cO 8 (alloc (AV.agg [AV.int IntKind.i64 (0),AV.int IntKind.i64 (0)])),Op2.mk none none (Ins.st 2 (t 8) (t 16))]).seq ((ops 0 [cO 18 (cM 0),cO 19 (ldn 2 (t 8)),cO 20 (Ins.mget (MK.st [int,int]) (AV.agg [AV.int IntKind.i64 (0),AV.int IntKind.i64 (0)]) true (t 18) (t 19)),cO 17 (cM 20),cO 21 (ext (t 17) 0),cO 22 (ext (t 17) 1),cO 9 (alloc (AV.agg [AV.int IntKind.i64 (0),AV.int IntKind.i64 (0)])),Op2.mk none none (Ins.st 2 (t 9) (t 21)),cO 10 (cM 22)]).seq (((ops 0 [cO 23 (cM 10),cO 24 (un UnOp.not (t 23))]).seq (C2.cond (t 24) ((ops 0 [cO 4 (mov (c AV.esl)),cO 5 (mov ay)]).seq ret) skip)).seq (ops 0 [cO 25 (cM 6),cO 26 (ldn 2 (t 9)),cO 27 (bldS 2 1 [AV.int IntKind.i64 (0),AV.int IntKind.i64 (0)] [(0,2,t 26)]),cO 28 (app 2 16 (t 25) (t 27)),cO 6 (cM 28)]))))).seq (ops 0 [cO 29 (cB .add (t 13) (cN 1)),cO 13 (cM 29)])))).loop)).seq ((ops 0 [cO 30 (cM 6),cO 31 (call (cF 49) [t 30,c (AV.func 69 [])])]).seq ((ops 0 [cO 32 (cM 6),cO 33 (call (cF 51) [t 32]),cO 4 (cM 33),cO 5 (mov aO)]).seq ret))))))
theorem Af:Is Try.prog 54 b54:=Is.mk' Try.func54 (by kernel_rfl)
def b55:F2:=(F2.mk 6 [RV.t 2] ((ops 0 [cO 2 (mov ay)]).seq ((ops 0 [cO 3 (cM 0),cO 4 (lenS (t 3)),cO 5 (cB .leq (t 4) (cN 10)),cO 2 (cM 5)]).seq ret)))
theorem zZ:Is Try.prog 55 b55:=Is.mk' Try.func55 (by kernel_rfl)
def b56:F2:=(F2.mk 21 [RV.t 2] ((ops 0 [cO 1 (box (t 0)),cO 2 (mov ay)]).seq ((ops 0 [cO 3 (fa 0 (t 1)),cO 4 (cD 3),cO 5 (cB .geq (t 4) (cN 0)),cO 6 (cM 5),cG 7 6 true (fa 0 (t 1)),cG 8 6 true (cD 7),cG 9 6 true (cB .lss (t 8) (cN 8)),cO 10 (pick (t 6) (t 9) ay),cO 11 (cM 10),cG 12 11 true (fa 1 (t 1)),cG 13 11 true (cD 12),cG 14 11 true (cB .geq (t 13) (cN 0)),cO 15 (pick (t 11) (t 14) ay),cO 16 (cM 15),cG 17 16 true (fa 1 (t 1)),cG 18 16 true (cD 17),cG 19 16 true (cB .leq (t 18) (cN 1048576)),cO 20 (pick (t 16) (t 19) ay),cO 2 (cM 20)]).seq ret)))
theorem Aj:Is Try.prog 56 b56:=Is.mk' Try.func56 (by kernel_rfl)
def b57:F2:=(F2.mk 29 [RV.t 4] ((ops 0 [cO 2 (box (t 0)),cO 3 (box (t 1)),cO 4 (mov (cN 0))]).seq ((block 0 ((ops 0 [cO 6 (fa 0 (t 2)),cO 7 (cD 6),cO 8 (fa 0 (t 3)),cO 9 (cD 8),cO 10 (cB .lss (t 7) (t 9)),cO 5 (cM 10)]).seq (C2.cond (t 5) ((ops 0 [cO 4 (mov (cN ((-1))))]).seq ret) ((ops 0 [cO 12 (fa 0 (t 2)),cO 13 (cD 12),cO 14 (fa 0 (t 3)),cO 15 (cD 14),cO 16 (cB .gtr (t 13) (t 15)),cO 11 (cM 16)]).seq (C2.cond (t 11) ((ops 0 [cO 4 (mov (cN 1))]).seq ret) ((ops 0 [cO 18 (fa 1 (t 2)),cO 19 (cD 18),cO 20 (fa 1 (t 3)),cO 21 (cD 20),cO 22 (cB .lss (t 19) (t 21)),cO 17 (cM 22)]).seq (C2.cond (t 17) ((ops 0 [cO 4 (mov (cN ((-1))))]).seq ret) ((ops 0 [cO 24 (fa 1 (t 2)),cO 25 (cD 24),cO 26 (fa 1 (t 3)),cO 27 (cD 26),cO 28 (cB .gtr (t 25) (t 27)),cO 23 (cM 28)]).seq (C2.cond (t 23) ((ops 0 [cO 4 (mov (cN 1))]).seq ret) skip))))))))).seq ((ops 0 [cO 4 (mov (cN 0))]).seq ret))))
theorem Ai:Is Try.prog 57 b57:=Is.mk' Try.func57 (by kernel_rfl)
def b58:F2:=(F2.mk 18 [RV.t 4] ((ops 0 [cO 3 (box (t 1)),cO 4 (mov ay)]).seq (((ops 0 [cO 5 (mov (cN 0))]).seq (block 0 (((ops 0 [cO 6 (cM 5),cO 7 (cM 0),cO 8 (lenS (t 7)),cO 9 (cB .lss (t 6) (t 8))]).seq (C2.cond (t 9) skip (exit 0))).seq ((block 1 ((ops 1 [cO 12 (cM 0),cO 13 (cM 5),cO 14 (ixaS 2 (t 12) (t 13)),cO 15 (ldn 2 (t 14)),cO 16 (ldn 2 (t 3)),cO 17 (binS BinOp.eql [int,int] (t 15) (t 16))]).seq (C2.cond (t 17) ((ops 0 [cO 4 (mov aO)]).seq ret) skip))).seq (ops 0 [cO 10 (cM 5),cO 11 (cB .add (t 10) (cN 1)),cO 5 (cM 11)]))).loop)).seq ((ops 0 [cO 4 (mov ay)]).seq ret))))
theorem z5:Is Try.prog 58 b58:=Is.mk' Try.func58 (by kernel_rfl)
def b59:F2:=(F2.mk 21 [RV.t 2] ((ops 0 [cO 1 (box (t 0)),cO 2 (mov ay)]).seq ((ops 0 [cO 3 (fa 0 (t 1)),cO 4 (cD 3),cO 5 (cB .geq (t 4) (cN 0)),cO 6 (cM 5),cG 7 6 true (fa 0 (t 1)),cG 8 6 true (cD 7),cG 9 6 true (cB .lss (t 8) (cN 8)),cO 10 (pick (t 6) (t 9) ay),cO 11 (cM 10),cG 12 11 true (fa 1 (t 1)),cG 13 11 true (cD 12),cG 14 11 true (cB .geq (t 13) (cN 0)),cO 15 (pick (t 11) (t 14) ay),cO 16 (cM 15),cG 17 16 true (fa 1 (t 1)),cG 18 16 true (cD 17),cG 19 16 true (cB .leq (t 18) (cN 1048576)),cO 20 (pick (t 16) (t 19) ay),cO 2 (cM 20)]).seq ret)))
theorem zw:Is Try.prog 59 b59:=Is.mk' Try.func59 (by kernel_rfl)
def b60:F2:=(F2.mk 17 [RV.t 4] ((ops 0 [cO 2 (box (t 0)),cO 3 (box (t 1)),cO 4 (mov (cN 0))]).seq ((mixS 1 [cO 5 (fa 0 (t 2)),cO 6 (cD 5),cO 7 (fa 0 (t 3)),cO 8 (cD 7),cO 9 (call (cF 71) [t 6,t 8]),cO 10 (fa 1 (t 2)),cO 11 (cD 10),cO 12 (fa 1 (t 3)),cO 13 (cD 12),cO 14 (call (cF 71) [t 11,t 13]),cO 15 (bldS 1 2 [AV.int IntKind.i64 (0)] [(0,1,t 9),(1,1,t 14)]),cO 16 (call (cF 70) [t 15]),cO 4 (cM 16)] [(0,0),(1,0),(2,0),(3,0),(5,0),(6,0),(7,0),(8,0),(4,1),(9,2),(10,2),(11,2),(12,0)]).seq ret)))
theorem yP:Is Try.prog 60 b60:=Is.mk' Try.func60 (by kernel_rfl)
def b61:F2:=(F2.mk 148 [] ((ops 0 [cO 10 (mov aO)]).seq ((ops 0 [cO 11 (mov aO)]).seq (block 0 (block 1 ((ops 0 [cO 21 (cM 2),cO 22 (cM 1),cO 23 (cB .sub (t 21) (t 22)),cO 12 (cM 23)]).seq (((ops 0 [cO 24 (cM 12),cO 25 (cB .leq (t 24) (cN 12))]).seq (C2.cond (t 25) ((ops 0 [cO 26 (cM 0),cO 27 (cM 1),cO 28 (cM 2),cO 29 (cM 4),cO 30 (call (cF 72) [t 26,t 27,t 28,t 29])]).seq ret) skip)).seq (((ops 0 [cO 31 (cM 3),cO 32 (cB .eql (t 31) (cN 0))]).seq (C2.cond (t 32) ((ops 0 [cO 33 (cM 0),cO 34 (cM 1),cO 35 (cM 2),cO 36 (cM 4),cO 37 (call (cF 73) [t 33,t 34,t 35,t 36])]).seq ret) skip)).seq (((ops 0 [cO 38 (cM 10),cO 39 (un UnOp.not (t 38))]).seq (C2.cond (t 39) ((ops 0 [cO 40 (cM 0),cO 41 (cM 1),cO 42 (cM 2),cO 43 (cM 4),cO 44 (call (cF 74) [t 40,t 41,t 42,t 43])]).seq (ops 0 [cO 45 (cM 3),cO 46 (cB .sub (t 45) (cN 1)),cO 3 (cM 46)])) skip)).seq ((ops 0 [cO 48 (cM 0),cO 49 (cM 1),cO 50 (cM 2),cO 51 (cM 4),cO 52 (call (cF 75) [t 48,t 49,t 50,t 51]),cO 47 (cM 52),cO 53 (ext (t 47) 0),cO 54 (ext (t 47) 1),cO 13 (cM 53),cO 14 (cM 54)]).seq (((ops 0 [cO 55 (cM 14),cO 56 (cB .eql (t 55) (cN 2))]).seq (C2.cond (t 56) ((ops 0 [cO 57 (cM 0),cO 58 (cM 1),cO 59 (cM 2),cO 60 (cM 4),cO 61 (call (cF 76) [t 57,t 58,t 59,t 60])]).seq ((ops 0 [cO 62 (cM 2),cO 63 (cB .sub (t 62) (cN 1)),cO 64 (cM 13),cO 65 (cM 1),cO 66 (cB .sub (t 64) (t 65)),cO 67 (cB .sub (t 63) (t 66)),cO 13 (cM 67)]).seq (ops 0 [cO 14 (mov (cN 1))]))) skip)).seq (((ops 0 [cO 68 (cM 10),cO 69 (cM 68),cG 70 69 true (cM 11),cO 71 (pick (t 69) (t 70) ay),cO 72 (cM 71),cG 73 72 true (cM 14),cG 74 72 true (cB .eql (t 73) (cN 1)),cO 75 (pick (t 72) (t 74) ay)]).seq (C2.cond (t 75) ((ops 0 [cO 76 (cM 0),cO 77 (cM 1),cO 78 (cM 2),cO 79 (cM 4),cO 80 (call (cF 77) [t 76,t 77,t 78,t 79])]).seq (C2.cond (t 80) ret skip)) skip)).seq (((mixS 1 [cO 81 (cM 1),cO 82 (cB .gtr (t 81) (cN 0)),cO 83 (cM 82),cG 84 83 true (cM 4),cG 85 83 true (cM 0),cG 86 83 true (cM 1),cG 87 83 true (cB .sub (t 86) (cN 1)),cG 88 83 true (ixaS 1 (t 85) (t 87)),cG 89 83 true (cD 88),cG 90 83 true (cM 0),cG 91 83 true (cM 13),cG 92 83 true (ixaS 1 (t 90) (t 91)),cG 93 83 true (cD 92),cG 94 83 true (call (t 84) [t 89,t 93]),cG 95 83 true (cB .lss (t 94) (cN 0)),cG 96 83 true (un UnOp.not (t 95)),cO 97 (pick (t 83) (t 96) ay)] [(0,0),(1,0),(2,0),(3,0),(4,0),(5,0),(6,0),(7,0),(8,0),(9,0),(10,0),(11,0),(12,0),(13,2),(14,0),(15,0),(16,0)]).seq (C2.cond (t 97) ((ops 0 [cO 98 (cM 0),cO 99 (cM 1),cO 100 (cM 2),cO 101 (cM 13),cO 102 (cM 4),cO 103 (call (cF 78) [t 98,t 99,t 100,t 101,t 102]),cO 15 (cM 103)]).seq ((ops 0 [cO 104 (cM 15),cO 1 (cM 104)]).seq (exit 1))) skip)).seq ((ops 0 [cO 106 (cM 0),cO 107 (cM 1),cO 108 (cM 2),cO 109 (cM 13),cO 110 (cM 4),cO 111 (call (cF 79) [t 106,t 107,t 108,t 109,t 110]),cO 105 (cM 111),cO 112 (ext (t 105) 0),cO 113 (ext (t 105) 1),cO 16 (cM 112),cO 17 (cM 113)]).seq ((ops 0 [cO 114 (cM 17),cO 11 (cM 114)]).seq ((ops 0 [cO 115 (cM 16),cO 116 (cM 1),cO 117 (cB .sub (t 115) (t 116)),cO 118 (cM 2),cO 119 (cM 16),cO 120 (cB .sub (t 118) (t 119)),cO 18 (cM 117),cO 19 (cM 120)]).seq ((ops 0 [cO 121 (cM 12),cO 122 (cB .quo (t 121) (cN 8)),cO 20 (cM 122)]).seq ((ops 0 [cO 123 (cM 18),cO 124 (cM 19),cO 125 (cB .lss (t 123) (t 124))]).seq (C2.cond (t 125) ((ops 0 [cO 126 (cM 18),cO 127 (cM 20),cO 128 (cB .geq (t 126) (t 127)),cO 10 (cM 128)]).seq ((ops 0 [cO 129 (cM 0),cO 130 (cM 1),cO 131 (cM 16),cO 132 (cM 3),cO 133 (cM 4),cO 134 (call (cF 61) [t 129,t 130,t 131,t 132,t 133])]).seq (ops 0 [cO 135 (cM 16),cO 136 (cB .add (t 135) (cN 1)),cO 1 (cM 136)]))) ((ops 0 [cO 137 (cM 19),cO 138 (cM 20),cO 139 (cB .geq (t 137) (t 138)),cO 10 (cM 139)]).seq ((ops 0 [cO 140 (cM 0),cO 141 (cM 16),cO 142 (cB .add (t 141) (cN 1)),cO 143 (cM 2),cO 144 (cM 3),cO 145 (cM 4),cO 146 (call (cF 61) [t 140,t 142,t 143,t 144,t 145])]).seq (ops 0 [cO 147 (cM 16),cO 2 (cM 147)])))))))))))))))))).loop))))
theorem xn:Is Try.prog 61 b61:=Is.mk' Try.func61 (by kernel_rfl)
def b62:F2:=(F2.mk 8 [RV.t 2] ((ops 0 [cO 2 (mov (cN 0))]).seq ((C2.cond ay ((ops 0 [cO 3 (cM 0),cO 4 (conv IntKind.u32 (t 3)),cO 5 (call (cF 80) [t 4]),cO 2 (cM 5)]).seq ret) skip).seq ((ops 0 [cO 6 (cM 0),cO 7 (call (cF 81) [t 6]),cO 2 (cM 7)]).seq ret))))
theorem xi:Is Try.prog 62 b62:=Is.mk' Try.func62 (by kernel_rfl)
def b63:F2:=(F2.mk 39 [RV.t 6] ((ops 0 [cO 6 (mov (cN 0))]).seq (((ops 0 [cO 11 (cM 0),cO 12 (lenS (t 11)),cO 13 (mov (cN 0))]).seq (block 0 ((ops 0 [cO 14 (cB .lss (t 13) (t 12))]).seq ((C2.cond (t 14) skip (exit 0)).seq ((block 1 ((ops 0 [cO 15 (cM 13),cO 16 (ixaS 2 (t 11) (t 13)),cO 17 (ldn 2 (t 16)),cO 8 (alloc (AV.agg [AV.int IntKind.i64 (0),AV.int IntKind.i64 (0)])),cO 7 (cM 15),Op2.mk none none (Ins.st 2 (t 8) (t 17))]).seq (((ops 0 [cO 18 (cM 7),cO 19 (cM 1),cO 20 (lenS (t 19)),cO 21 (cB .geq (t 18) (t 20))]).seq (C2.cond (t 21) ((ops 0 [cO 6 (mov (cN 1))]).seq ret) skip)).seq ((ops 0 [cO 22 (cM 1),cO 23 (cM 7),cO 24 (ixaS 2 (t 22) (t 23)),cO 25 (ldn 2 (t 24)),cO 9 (alloc (AV.agg [AV.int IntKind.i64 (0),AV.int IntKind.i64 (0)])),Op2.mk none none (Ins.st 2 (t 9) (t 25))]).seq ((ops 0 [cO 26 (cM 2),cO 27 (ldn 2 (t 8)),cO 28 (ldn 2 (t 9)),cO 29 (call (t 26) [t 27,t 28]),cO 10 (cM 29)]).seq ((ops 0 [cO 30 (cM 10),cO 31 (cB .neq (t 30) (cN 0))]).seq (C2.cond (t 31) ((ops 0 [cO 32 (cM 10),cO 6 (cM 32)]).seq ret) skip))))))).seq (ops 0 [cO 33 (cB .add (t 13) (cN 1)),cO 13 (cM 33)])))).loop)).seq (((ops 0 [cO 34 (cM 0),cO 35 (lenS (t 34)),cO 36 (cM 1),cO 37 (lenS (t 36)),cO 38 (cB .lss (t 35) (t 37))]).seq (C2.cond (t 38) ((ops 0 [cO 6 (mov (cN ((-1))))]).seq ret) skip)).seq ((ops 0 [cO 6 (mov (cN 0))]).seq ret)))))
theorem yH:Is Try.prog 63 b63:=Is.mk' Try.func63 (by kernel_rfl)
def b64:F2:=(F2.mk 9 [RV.t 4] ((ops 0 [cO 4 (mov ay)]).seq ((ops 0 [cO 5 (cM 0),cO 6 (cM 1),cO 7 (call (cF 82) [t 5,t 6]),cO 8 (cB .geq (t 7) (cN 0)),cO 4 (cM 8)]).seq ret)))
theorem yd:Is Try.prog 64 b64:=Is.mk' Try.func64 (by kernel_rfl)
def b65:F2:=(F2.mk 21 [RV.t 4] ((ops 0 [cO 4 (mov ay)]).seq ((mixS 1 [cO 5 (cD 1),cO 6 (cM 0),cO 7 (ixaS 1 (t 5) (t 6)),cO 8 (cD 7),cO 9 (lenS (t 8)),cO 10 (cD 2),cO 11 (lenS (t 10)),cO 12 (cB .gtr (t 9) (t 11)),cO 13 (cM 12),cG 14 13 true (cD 2),cG 15 13 true (cD 1),cG 16 13 true (cM 0),cG 17 13 true (ixaS 1 (t 15) (t 16)),cG 18 13 true (cD 17),cG 19 13 true (call (cF 40) [t 14,t 18]),cO 20 (pick (t 13) (t 19) ay),cO 4 (cM 20)] [(0,0),(1,0),(2,0),(3,0),(4,0),(5,0),(6,0),(7,0),(8,0),(9,0),(10,0),(11,0),(12,0),(13,0),(14,2),(15,0),(16,0)]).seq ret)))
theorem yt:Is Try.prog 65 b65:=Is.mk' Try.func65 (by kernel_rfl)
def b66:F2:=(F2.mk 27 [RV.t 4] ((ops 0 [cO 4 (mov (c AV.esl))]).seq (((ops 0 [cO 5 (cM 1),cO 6 (cB .lss (t 5) (cN 0))]).seq (C2.cond (t 6) (ops 0 [cO 7 dead,Op2.mk none none dead]) skip)).seq (((ops 0 [cO 8 (cM 1),cO 9 (cM 0),cO 10 (capE (t 9)),cO 11 (cM 0),cO 12 (lenS (t 11)),cO 13 (cB .sub (t 10) (t 12)),cO 14 (cB .sub (t 8) (t 13)),cO 1 (cM 14)]).seq ((ops 0 [cO 15 (cM 1),cO 16 (cB .gtr (t 15) (cN 0))]).seq (C2.cond (t 16) (ops 0 [cO 17 (cM 0),cO 18 (cM 0),cO 19 (capE (t 18)),cO 20 (sls 2 (t 17) none (some (t 19)) none),cO 21 (cM 1),cO 22 (apz 2 16 [AV.int IntKind.i64 (0),AV.int IntKind.i64 (0)] (t 20) (t 21)),cO 23 (cM 0),cO 24 (lenS (t 23)),cO 25 (sls 2 (t 22) none (some (t 24)) none),cO 0 (cM 25)]) skip))).seq ((ops 0 [cO 26 (cM 0),cO 4 (cM 26)]).seq ret)))))
theorem zC:Is Try.prog 66 b66:=Is.mk' Try.func66 (by kernel_rfl)
def b67:F2:=(F2.mk 148 [] ((ops 0 [cO 10 (mov aO)]).seq ((ops 0 [cO 11 (mov aO)]).seq (block 0 (block 1 ((ops 0 [cO 21 (cM 2),cO 22 (cM 1),cO 23 (cB .sub (t 21) (t 22)),cO 12 (cM 23)]).seq (((ops 0 [cO 24 (cM 12),cO 25 (cB .leq (t 24) (cN 12))]).seq (C2.cond (t 25) ((ops 0 [cO 26 (cM 0),cO 27 (cM 1),cO 28 (cM 2),cO 29 (cM 4),cO 30 (call (cF 83) [t 26,t 27,t 28,t 29])]).seq ret) skip)).seq (((ops 0 [cO 31 (cM 3),cO 32 (cB .eql (t 31) (cN 0))]).seq (C2.cond (t 32) ((ops 0 [cO 33 (cM 0),cO 34 (cM 1),cO 35 (cM 2),cO 36 (cM 4),cO 37 (call (cF 84) [t 33,t 34,t 35,t 36])]).seq ret) skip)).seq (((ops 0 [cO 38 (cM 10),cO 39 (un UnOp.not (t 38))]).seq (C2.cond (t 39) ((ops 0 [cO 40 (cM 0),cO 41 (cM 1),cO 42 (cM 2),cO 43 (cM 4),cO 44 (call (cF 85) [t 40,t 41,t 42,t 43])]).seq (ops 0 [cO 45 (cM 3),cO 46 (cB .sub (t 45) (cN 1)),cO 3 (cM 46)])) skip)).seq ((ops 0 [cO 48 (cM 0),cO 49 (cM 1),cO 50 (cM 2),cO 51 (cM 4),cO 52 (call (cF 86) [t 48,t 49,t 50,t 51]),cO 47 (cM 52),cO 53 (ext (t 47) 0),cO 54 (ext (t 47) 1),cO 13 (cM 53),cO 14 (cM 54)]).seq (((ops 0 [cO 55 (cM 14),cO 56 (cB .eql (t 55) (cN 2))]).seq (C2.cond (t 56) ((ops 0 [cO 57 (cM 0),cO 58 (cM 1),cO 59 (cM 2),cO 60 (cM 4),cO 61 (call (cF 87) [t 57,t 58,t 59,t 60])]).seq ((ops 0 [cO 62 (cM 2),cO 63 (cB .sub (t 62) (cN 1)),cO 64 (cM 13),cO 65 (cM 1),cO 66 (cB .sub (t 64) (t 65)),cO 67 (cB .sub (t 63) (t 66)),cO 13 (cM 67)]).seq (ops 0 [cO 14 (mov (cN 1))]))) skip)).seq (((ops 0 [cO 68 (cM 10),cO 69 (cM 68),cG 70 69 true (cM 11),cO 71 (pick (t 69) (t 70) ay),cO 72 (cM 71),cG 73 72 true (cM 14),cG 74 72 true (cB .eql (t 73) (cN 1)),cO 75 (pick (t 72) (t 74) ay)]).seq (C2.cond (t 75) ((ops 0 [cO 76 (cM 0),cO 77 (cM 1),cO 78 (cM 2),cO 79 (cM 4),cO 80 (call (cF 88) [t 76,t 77,t 78,t 79])]).seq (C2.cond (t 80) ret skip)) skip)).seq (((mixS 1 [cO 81 (cM 1),cO 82 (cB .gtr (t 81) (cN 0)),cO 83 (cM 82),cG 84 83 true (cM 4),cG 85 83 true (cM 0),cG 86 83 true (cM 1),cG 87 83 true (cB .sub (t 86) (cN 1)),cG 88 83 true (ixaS 2 (t 85) (t 87)),cG 89 83 true (ldn 2 (t 88)),cG 90 83 true (cM 0),cG 91 83 true (cM 13),cG 92 83 true (ixaS 2 (t 90) (t 91)),cG 93 83 true (ldn 2 (t 92)),cG 94 83 true (call (t 84) [t 89,t 93]),cG 95 83 true (cB .lss (t 94) (cN 0)),cG 96 83 true (un UnOp.not (t 95)),cO 97 (pick (t 83) (t 96) ay)] [(0,0),(1,0),(2,0),(3,0),(4,0),(5,0),(6,0),(7,0),(8,0),(9,0),(10,0),(11,0),(12,0),(13,2),(14,0),(15,0),(16,0)]).seq (C2.cond (t 97) ((ops 0 [cO 98 (cM 0),cO 99 (cM 1),cO 100 (cM 2),cO 101 (cM 13),cO 102 (cM 4),cO 103 (call (cF 89) [t 98,t 99,t 100,t 101,t 102]),cO 15 (cM 103)]).seq ((ops 0 [cO 104 (cM 15),cO 1 (cM 104)]).seq (exit 1))) skip)).seq ((ops 0 [cO 106 (cM 0),cO 107 (cM 1),cO 108 (cM 2),cO 109 (cM 13),cO 110 (cM 4),cO 111 (call (cF 90) [t 106,t 107,t 108,t 109,t 110]),cO 105 (cM 111),cO 112 (ext (t 105) 0),cO 113 (ext (t 105) 1),cO 16 (cM 112),cO 17 (cM 113)]).seq ((ops 0 [cO 114 (cM 17),cO 11 (cM 114)]).seq ((ops 0 [cO 115 (cM 16),cO 116 (cM 1),cO 117 (cB .sub (t 115) (t 116)),cO 118 (cM 2),cO 119 (cM 16),cO 120 (cB .sub (t 118) (t 119)),cO 18 (cM 117),cO 19 (cM 120)]).seq ((ops 0 [cO 121 (cM 12),cO 122 (cB .quo (t 121) (cN 8)),cO 20 (cM 122)]).seq ((ops 0 [cO 123 (cM 18),cO 124 (cM 19),cO 125 (cB .lss (t 123) (t 124))]).seq (C2.cond (t 125) ((ops 0 [cO 126 (cM 18),cO 127 (cM 20),cO 128 (cB .geq (t 126) (t 127)),cO 10 (cM 128)]).seq ((ops 0 [cO 129 (cM 0),cO 130 (cM 1),cO 131 (cM 16),cO 132 (cM 3),cO 133 (cM 4),cO 134 (call (cF 67) [t 129,t 130,t 131,t 132,t 133])]).seq (ops 0 [cO 135 (cM 16),cO 136 (cB .add (t 135) (cN 1)),cO 1 (cM 136)]))) ((ops 0 [cO 137 (cM 19),cO 138 (cM 20),cO 139 (cB .geq (t 137) (t 138)),cO 10 (cM 139)]).seq ((ops 0 [cO 140 (cM 0),cO 141 (cM 16),cO 142 (cB .add (t 141) (cN 1)),cO 143 (cM 2),cO 144 (cM 3),cO 145 (cM 4),cO 146 (call (cF 67) [t 140,t 142,t 143,t 144,t 145])]).seq (ops 0 [cO 147 (cM 16),cO 2 (cM 147)])))))))))))))))))).loop))))
theorem xY:Is Try.prog 67 b67:=Is.mk' Try.func67 (by kernel_rfl)
def b68:F2:=(F2.mk 21 [RV.t 2] ((ops 0 [cO 1 (box (t 0)),cO 2 (mov ay)]).seq ((ops 0 [cO 3 (fa 0 (t 1)),cO 4 (cD 3),cO 5 (cB .geq (t 4) (cN 0)),cO 6 (cM 5),cG 7 6 true (fa 0 (t 1)),cG 8 6 true (cD 7),cG 9 6 true (cB .lss (t 8) (cN 8)),cO 10 (pick (t 6) (t 9) ay),cO 11 (cM 10),cG 12 11 true (fa 1 (t 1)),cG 13 11 true (cD 12),cG 14 11 true (cB .geq (t 13) (cN 0)),cO 15 (pick (t 11) (t 14) ay),cO 16 (cM 15),cG 17 16 true (fa 1 (t 1)),cG 18 16 true (cD 17),cG 19 16 true (cB .leq (t 18) (cN 1048576)),cO 20 (pick (t 16) (t 19) ay),cO 2 (cM 20)]).seq ret)))
theorem Ag:Is Try.prog 68 b68:=Is.mk' Try.func68 (by kernel_rfl)
def b69:F2:=(F2.mk 17 [RV.t 4] ((ops 0 [cO 2 (box (t 0)),cO 3 (box (t 1)),cO 4 (mov (cN 0))]).seq ((mixS 1 [cO 5 (fa 0 (t 2)),cO 6 (cD 5),cO 7 (fa 0 (t 3)),cO 8 (cD 7),cO 9 (call (cF 71) [t 6,t 8]),cO 10 (fa 1 (t 2)),cO 11 (cD 10),cO 12 (fa 1 (t 3)),cO 13 (cD 12),cO 14 (call (cF 71) [t 11,t 13]),cO 15 (bldS 1 2 [AV.int IntKind.i64 (0)] [(0,1,t 9),(1,1,t 14)]),cO 16 (call (cF 70) [t 15]),cO 4 (cM 16)] [(0,0),(1,0),(2,0),(3,0),(5,0),(6,0),(7,0),(8,0),(4,1),(9,2),(10,2),(11,2),(12,0)]).seq ret)))
theorem Al:Is Try.prog 69 b69:=Is.mk' Try.func69 (by kernel_rfl)
def b70:F2:=(F2.mk 18 [RV.t 2] ((ops 0 [cO 2 (mov (cN 0))]).seq ((ops 0 [cO 3 (mov (cN 0))]).seq (((ops 0 [cO 6 (cM 0),cO 7 (lenS (t 6)),cO 8 (mov (cN 0))]).seq (block 0 ((ops 0 [cO 9 (cB .lss (t 8) (t 7))]).seq ((C2.cond (t 9) skip (exit 0)).seq ((block 1 ((ops 0 [cO 10 (ixaS 1 (t 6) (t 8)),cO 11 (cD 10),cO 5 (cM 11)]).seq ((ops 0 [cO 12 (cM 5),cO 13 (cM 3),cO 14 (cB .neq (t 12) (t 13))]).seq (C2.cond (t 14) ((ops 0 [cO 15 (cM 5),cO 2 (cM 15)]).seq ret) skip)))).seq (ops 0 [cO 16 (cB .add (t 8) (cN 1)),cO 8 (cM 16)])))).loop)).seq ((ops 0 [cO 17 (cM 3),cO 2 (cM 17)]).seq ret)))))
theorem zE:Is Try.prog 70 b70:=Is.mk' Try.func70 (by kernel_rfl)
def b71:F2:=(F2.mk 20 [RV.t 4] ((ops 0 [cO 4 (mov (cN 0))]).seq ((ops 0 [cO 7 (cM 0),cO 8 (call (cF 91) [t 7]),cO 5 (cM 8)]).seq ((ops 0 [cO 9 (cM 1),cO 10 (call (cF 91) [t 9]),cO 6 (cM 10)]).seq (((ops 0 [cO 11 (cM 5)]).seq (C2.cond (t 11) (((ops 0 [cO 12 (cM 6)]).seq (C2.cond (t 12) ((ops 0 [cO 4 (mov (cN 0))]).seq ret) skip)).seq ((ops 0 [cO 4 (mov (cN ((-1))))]).seq ret)) skip)).seq (((ops 0 [cO 13 (cM 6)]).seq (C2.cond (t 13) ((ops 0 [cO 4 (mov (cN 1))]).seq ret) skip)).seq (((ops 0 [cO 14 (cM 0),cO 15 (cM 1),cO 16 (cB .lss (t 14) (t 15))]).seq (C2.cond (t 16) ((ops 0 [cO 4 (mov (cN ((-1))))]).seq ret) skip)).seq (((ops 0 [cO 17 (cM 0),cO 18 (cM 1),cO 19 (cB .gtr (t 17) (t 18))]).seq (C2.cond (t 19) ((ops 0 [cO 4 (mov (cN 1))]).seq ret) skip)).seq ((ops 0 [cO 4 (mov (cN 0))]).seq ret)))))))))
theorem ym:Is Try.prog 71 b71:=Is.mk' Try.func71 (by kernel_rfl)
def b72:F2:=(F2.mk 53 [] ((ops 0 [cO 10 (cM 1),cO 11 (cB .add (t 10) (cN 1)),cO 8 (cM 11)]).seq (block 0 (((ops 0 [cO 12 (cM 8),cO 13 (cM 2),cO 14 (cB .lss (t 12) (t 13))]).seq (C2.cond (t 14) skip (exit 0))).seq ((block 1 ((ops 0 [cO 17 (cM 8),cO 9 (cM 17)]).seq (block 2 (((mixS 1 [cO 18 (cM 9),cO 19 (cM 1),cO 20 (cB .gtr (t 18) (t 19)),cO 21 (cM 20),cG 22 21 true (cM 3),cG 23 21 true (cM 0),cG 24 21 true (cM 9),cG 25 21 true (ixaS 1 (t 23) (t 24)),cG 26 21 true (cD 25),cG 27 21 true (cM 0),cG 28 21 true (cM 9),cG 29 21 true (cB .sub (t 28) (cN 1)),cG 30 21 true (ixaS 1 (t 27) (t 29)),cG 31 21 true (cD 30),cG 32 21 true (call (t 22) [t 26,t 31]),cG 33 21 true (cB .lss (t 32) (cN 0)),cO 34 (pick (t 21) (t 33) ay)] [(0,0),(1,0),(2,0),(3,0),(4,0),(5,0),(6,0),(7,0),(8,0),(9,0),(10,0),(11,0),(12,0),(13,0),(14,2),(15,0),(16,0)]).seq (C2.cond (t 34) skip (exit 2))).seq ((block 3 (ops 1 [cO 37 (cM 0),cO 38 (cM 9),cO 39 (cM 0),cO 40 (cM 9),cO 41 (cB .sub (t 40) (cN 1)),cO 42 (cM 0),cO 43 (cM 9),cO 44 (cB .sub (t 43) (cN 1)),cO 45 (ixaS 1 (t 42) (t 44)),cO 46 (cD 45),cO 47 (cM 0),cO 48 (cM 9),cO 49 (ixaS 1 (t 47) (t 48)),cO 50 (cD 49),cO 51 (ixaS 1 (t 37) (t 38)),Op2.mk none none (Ins.st 1 (t 51) (t 46)),cO 52 (ixaS 1 (t 39) (t 41)),Op2.mk none none (Ins.st 1 (t 52) (t 50))])).seq (ops 0 [cO 35 (cM 9),cO 36 (cB .sub (t 35) (cN 1)),cO 9 (cM 36)]))).loop))).seq (ops 0 [cO 15 (cM 8),cO 16 (cB .add (t 15) (cN 1)),cO 8 (cM 16)]))).loop)))
theorem xM:Is Try.prog 72 b72:=Is.mk' Try.func72 (by kernel_rfl)
def b73:F2:=(F2.mk 60 [] ((ops 0 [cO 13 (cM 1),cO 8 (cM 13)]).seq ((ops 0 [cO 9 (mov (cN 0))]).seq ((ops 0 [cO 14 (cM 2),cO 15 (cM 1),cO 16 (cB .sub (t 14) (t 15)),cO 10 (cM 16)]).seq (((ops 0 [cO 17 (cM 10),cO 18 (cB .sub (t 17) (cN 1)),cO 19 (cB .quo (t 18) (cN 2)),cO 11 (cM 19)]).seq (block 0 (((ops 0 [cO 20 (cM 11),cO 21 (cB .geq (t 20) (cN 0))]).seq (C2.cond (t 21) skip (exit 0))).seq ((block 1 (ops 0 [cO 24 (cM 0),cO 25 (cM 11),cO 26 (cM 10),cO 27 (cM 8),cO 28 (cM 3),cO 29 (call (cF 92) [t 24,t 25,t 26,t 27,t 28])])).seq (ops 0 [cO 22 (cM 11),cO 23 (cB .sub (t 22) (cN 1)),cO 11 (cM 23)]))).loop)).seq ((ops 0 [cO 30 (cM 10),cO 31 (cB .sub (t 30) (cN 1)),cO 12 (cM 31)]).seq (block 2 (((ops 0 [cO 32 (cM 12),cO 33 (cB .geq (t 32) (cN 0))]).seq (C2.cond (t 33) skip (exit 2))).seq ((block 3 ((ops 1 [cO 36 (cM 0),cO 37 (cM 8),cO 38 (cM 0),cO 39 (cM 8),cO 40 (cM 12),cO 41 (cB .add (t 39) (t 40)),cO 42 (cM 0),cO 43 (cM 8),cO 44 (cM 12),cO 45 (cB .add (t 43) (t 44)),cO 46 (ixaS 1 (t 42) (t 45)),cO 47 (cD 46),cO 48 (cM 0),cO 49 (cM 8),cO 50 (ixaS 1 (t 48) (t 49)),cO 51 (cD 50),cO 52 (ixaS 1 (t 36) (t 37)),Op2.mk none none (Ins.st 1 (t 52) (t 47)),cO 53 (ixaS 1 (t 38) (t 41)),Op2.mk none none (Ins.st 1 (t 53) (t 51))]).seq (ops 0 [cO 54 (cM 0),cO 55 (cM 9),cO 56 (cM 12),cO 57 (cM 8),cO 58 (cM 3),cO 59 (call (cF 92) [t 54,t 55,t 56,t 57,t 58])]))).seq (ops 0 [cO 34 (cM 12),cO 35 (cB .sub (t 34) (cN 1)),cO 12 (cM 35)]))).loop)))))))
theorem yL:Is Try.prog 73 b73:=Is.mk' Try.func73 (by kernel_rfl)
def b74:F2:=(F2.mk 67 [] ((ops 0 [cO 13 (cM 2),cO 14 (cM 1),cO 15 (cB .sub (t 13) (t 14)),cO 8 (cM 15)]).seq ((ops 0 [cO 16 (cM 8),cO 17 (cB .geq (t 16) (cN 8))]).seq (C2.cond (t 17) ((ops 0 [cO 18 (cM 8),cO 19 (conv IntKind.u64 (t 18)),cO 9 (alloc (AV.int IntKind.u64 (0))),Op2.mk none none (Ins.st 1 (t 9) (t 19))]).seq ((ops 0 [cO 20 (cM 8),cO 21 (call (cF 93) [t 20]),cO 10 (cM 21)]).seq ((ops 0 [cO 22 (cM 1),cO 23 (cM 8),cO 24 (cB .quo (t 23) (cN 4)),cO 25 (cB .mul (t 24) (cN 2)),cO 26 (cB .add (t 22) (t 25)),cO 27 (cB .sub (t 26) (cN 1)),cO 11 (cM 27)]).seq (block 0 (((ops 0 [cO 28 (cM 11),cO 29 (cM 1),cO 30 (cM 8),cO 31 (cB .quo (t 30) (cN 4)),cO 32 (cB .mul (t 31) (cN 2)),cO 33 (cB .add (t 29) (t 32)),cO 34 (cB .add (t 33) (cN 1)),cO 35 (cB .leq (t 28) (t 34))]).seq (C2.cond (t 35) skip (exit 0))).seq ((block 1 ((ops 0 [cO 38 (call (cF 94) [t 9]),cO 39 (cM 10),cO 40 (cB .sub (t 39) (c (AV.int IntKind.u64 (1)))),cO 41 (cB .and (t 38) (t 40)),cO 42 (conv IntKind.i64 (t 41)),cO 12 (cM 42)]).seq (((ops 0 [cO 43 (cM 12),cO 44 (cM 8),cO 45 (cB .geq (t 43) (t 44))]).seq (C2.cond (t 45) (ops 0 [cO 46 (cM 12),cO 47 (cM 8),cO 48 (cB .sub (t 46) (t 47)),cO 12 (cM 48)]) skip)).seq (ops 1 [cO 49 (cM 0),cO 50 (cM 11),cO 51 (cM 0),cO 52 (cM 1),cO 53 (cM 12),cO 54 (cB .add (t 52) (t 53)),cO 55 (cM 0),cO 56 (cM 1),cO 57 (cM 12),cO 58 (cB .add (t 56) (t 57)),cO 59 (ixaS 1 (t 55) (t 58)),cO 60 (cD 59),cO 61 (cM 0),cO 62 (cM 11),cO 63 (ixaS 1 (t 61) (t 62)),cO 64 (cD 63),cO 65 (ixaS 1 (t 49) (t 50)),Op2.mk none none (Ins.st 1 (t 65) (t 60)),cO 66 (ixaS 1 (t 51) (t 54)),Op2.mk none none (Ins.st 1 (t 66) (t 64))])))).seq (ops 0 [cO 36 (cM 11),cO 37 (cB .add (t 36) (cN 1)),cO 11 (cM 37)]))).loop)))) skip))))
theorem yi:Is Try.prog 74 b74:=Is.mk' Try.func74 (by kernel_rfl)
def b75:F2:=(F2.mk 63 [RV.t 8,RV.t 9] ((ops 0 [cO 8 (mov (cN 0)),cO 9 (mov (cN 0))]).seq ((ops 0 [cO 15 (cM 2),cO 16 (cM 1),cO 17 (cB .sub (t 15) (t 16)),cO 10 (cM 17)]).seq ((ops 0 [cO 11 (alloc (AV.int IntKind.i64 (0)))]).seq ((ops 0 [cO 18 (cM 1),cO 19 (cM 10),cO 20 (cB .quo (t 19) (cN 4)),cO 21 (cB .mul (t 20) (cN 1)),cO 22 (cB .add (t 18) (t 21)),cO 12 (cM 22)]).seq ((ops 0 [cO 23 (cM 1),cO 24 (cM 10),cO 25 (cB .quo (t 24) (cN 4)),cO 26 (cB .mul (t 25) (cN 2)),cO 27 (cB .add (t 23) (t 26)),cO 13 (cM 27)]).seq ((ops 0 [cO 28 (cM 1),cO 29 (cM 10),cO 30 (cB .quo (t 29) (cN 4)),cO 31 (cB .mul (t 30) (cN 3)),cO 32 (cB .add (t 28) (t 31)),cO 14 (cM 32)]).seq (((ops 0 [cO 33 (cM 10),cO 34 (cB .geq (t 33) (cN 8))]).seq (C2.cond (t 34) (((ops 0 [cO 35 (cM 10),cO 36 (cB .geq (t 35) (cN 50))]).seq (C2.cond (t 36) ((ops 0 [cO 37 (cM 0),cO 38 (cM 12),cO 39 (cM 3),cO 40 (call (cF 95) [t 37,t 38,t 11,t 39]),cO 12 (cM 40)]).seq ((ops 0 [cO 41 (cM 0),cO 42 (cM 13),cO 43 (cM 3),cO 44 (call (cF 95) [t 41,t 42,t 11,t 43]),cO 13 (cM 44)]).seq (ops 0 [cO 45 (cM 0),cO 46 (cM 14),cO 47 (cM 3),cO 48 (call (cF 95) [t 45,t 46,t 11,t 47]),cO 14 (cM 48)]))) skip)).seq (ops 0 [cO 49 (cM 0),cO 50 (cM 12),cO 51 (cM 13),cO 52 (cM 14),cO 53 (cM 3),cO 54 (call (cF 96) [t 49,t 50,t 51,t 52,t 11,t 53]),cO 13 (cM 54)])) skip)).seq ((ops 0 [cO 55 (cD 11)]).seq (block 0 ((ops 0 [cO 58 (cB .eql (t 55) (cN 0)),cO 57 (cM 58)]).seq (C2.cond (t 57) ((ops 0 [cO 59 (cM 13),cO 8 (cM 59),cO 9 (mov (cN 1))]).seq ret) ((ops 0 [cO 61 (cB .eql (t 55) (cN 12)),cO 60 (cM 61)]).seq (C2.cond (t 60) ((ops 0 [cO 62 (cM 13),cO 8 (cM 62),cO 9 (mov (cN 2))]).seq ret) ((ops 0 [cO 56 (cM 13),cO 8 (cM 56),cO 9 (mov (cN 0))]).seq ret)))))))))))))))
theorem yj:Is Try.prog 75 b75:=Is.mk' Try.func75 (by kernel_rfl)
def b76:F2:=(F2.mk 34 [] ((ops 0 [cO 10 (cM 1),cO 8 (cM 10)]).seq ((ops 0 [cO 11 (cM 2),cO 12 (cB .sub (t 11) (cN 1)),cO 9 (cM 12)]).seq (block 0 (((ops 0 [cO 13 (cM 8),cO 14 (cM 9),cO 15 (cB .lss (t 13) (t 14))]).seq (C2.cond (t 15) skip (exit 0))).seq (block 1 ((ops 1 [cO 16 (cM 0),cO 17 (cM 8),cO 18 (cM 0),cO 19 (cM 9),cO 20 (cM 0),cO 21 (cM 9),cO 22 (ixaS 1 (t 20) (t 21)),cO 23 (cD 22),cO 24 (cM 0),cO 25 (cM 8),cO 26 (ixaS 1 (t 24) (t 25)),cO 27 (cD 26),cO 28 (ixaS 1 (t 16) (t 17)),Op2.mk none none (Ins.st 1 (t 28) (t 23)),cO 29 (ixaS 1 (t 18) (t 19)),Op2.mk none none (Ins.st 1 (t 29) (t 27))]).seq ((ops 0 [cO 30 (cM 8),cO 31 (cB .add (t 30) (cN 1)),cO 8 (cM 31)]).seq (ops 0 [cO 32 (cM 9),cO 33 (cB .sub (t 32) (cN 1)),cO 9 (cM 33)]))))).loop))))
theorem yT:Is Try.prog 76 b76:=Is.mk' Try.func76 (by kernel_rfl)
def b77:F2:=(F2.mk 141 [RV.t 8] ((ops 0 [cO 8 (mov ay)]).seq ((ops 0 [cO 13 (cM 1),cO 14 (cB .add (t 13) (cN 1)),cO 9 (cM 14)]).seq (((ops 0 [cO 10 (mov (cN 0))]).seq (block 0 (((ops 0 [cO 15 (cM 10),cO 16 (cB .lss (t 15) (cN 5))]).seq (C2.cond (t 16) skip (exit 0))).seq ((block 1 ((block 2 (((mixS 1 [cO 19 (cM 9),cO 20 (cM 2),cO 21 (cB .lss (t 19) (t 20)),cO 22 (cM 21),cG 23 22 true (cM 3),cG 24 22 true (cM 0),cG 25 22 true (cM 9),cG 26 22 true (ixaS 1 (t 24) (t 25)),cG 27 22 true (cD 26),cG 28 22 true (cM 0),cG 29 22 true (cM 9),cG 30 22 true (cB .sub (t 29) (cN 1)),cG 31 22 true (ixaS 1 (t 28) (t 30)),cG 32 22 true (cD 31),cG 33 22 true (call (t 23) [t 27,t 32]),cG 34 22 true (cB .lss (t 33) (cN 0)),cG 35 22 true (un UnOp.not (t 34)),cO 36 (pick (t 22) (t 35) ay)] [(0,0),(1,0),(2,0),(3,0),(4,0),(5,0),(6,0),(7,0),(8,0),(9,0),(10,0),(11,0),(12,0),(13,0),(14,2),(15,0),(16,0),(17,0)]).seq (C2.cond (t 36) skip (exit 2))).seq (block 3 (ops 0 [cO 37 (cM 9),cO 38 (cB .add (t 37) (cN 1)),cO 9 (cM 38)]))).loop).seq (((ops 0 [cO 39 (cM 9),cO 40 (cM 2),cO 41 (cB .eql (t 39) (t 40))]).seq (C2.cond (t 41) ((ops 0 [cO 8 (mov aO)]).seq ret) skip)).seq (((ops 0 [cO 42 (cM 2),cO 43 (cM 1),cO 44 (cB .sub (t 42) (t 43)),cO 45 (cB .lss (t 44) (cN 50))]).seq (C2.cond (t 45) ((ops 0 [cO 8 (mov ay)]).seq ret) skip)).seq ((ops 1 [cO 46 (cM 0),cO 47 (cM 9),cO 48 (cM 0),cO 49 (cM 9),cO 50 (cB .sub (t 49) (cN 1)),cO 51 (cM 0),cO 52 (cM 9),cO 53 (cB .sub (t 52) (cN 1)),cO 54 (ixaS 1 (t 51) (t 53)),cO 55 (cD 54),cO 56 (cM 0),cO 57 (cM 9),cO 58 (ixaS 1 (t 56) (t 57)),cO 59 (cD 58),cO 60 (ixaS 1 (t 46) (t 47)),Op2.mk none none (Ins.st 1 (t 60) (t 55)),cO 61 (ixaS 1 (t 48) (t 50)),Op2.mk none none (Ins.st 1 (t 61) (t 59))]).seq (((ops 0 [cO 62 (cM 9),cO 63 (cM 1),cO 64 (cB .sub (t 62) (t 63)),cO 65 (cB .geq (t 64) (cN 2))]).seq (C2.cond (t 65) ((ops 0 [cO 66 (cM 9),cO 67 (cB .sub (t 66) (cN 1)),cO 11 (cM 67)]).seq (block 4 (((ops 0 [cO 68 (cM 11),cO 69 (cB .geq (t 68) (cN 1))]).seq (C2.cond (t 69) skip (exit 4))).seq ((block 5 (((mixS 1 [cO 72 (cM 3),cO 73 (cM 0),cO 74 (cM 11),cO 75 (ixaS 1 (t 73) (t 74)),cO 76 (cD 75),cO 77 (cM 0),cO 78 (cM 11),cO 79 (cB .sub (t 78) (cN 1)),cO 80 (ixaS 1 (t 77) (t 79)),cO 81 (cD 80),cO 82 (call (t 72) [t 76,t 81]),cO 83 (cB .lss (t 82) (cN 0)),cO 84 (un UnOp.not (t 83))] [(0,0),(1,0),(2,0),(3,0),(4,0),(5,0),(6,0),(7,0),(8,0),(9,0),(10,2),(11,0),(12,0)]).seq (C2.cond (t 84) (exit 4) skip)).seq (ops 1 [cO 85 (cM 0),cO 86 (cM 11),cO 87 (cM 0),cO 88 (cM 11),cO 89 (cB .sub (t 88) (cN 1)),cO 90 (cM 0),cO 91 (cM 11),cO 92 (cB .sub (t 91) (cN 1)),cO 93 (ixaS 1 (t 90) (t 92)),cO 94 (cD 93),cO 95 (cM 0),cO 96 (cM 11),cO 97 (ixaS 1 (t 95) (t 96)),cO 98 (cD 97),cO 99 (ixaS 1 (t 85) (t 86)),Op2.mk none none (Ins.st 1 (t 99) (t 94)),cO 100 (ixaS 1 (t 87) (t 89)),Op2.mk none none (Ins.st 1 (t 100) (t 98))]))).seq (ops 0 [cO 70 (cM 11),cO 71 (cB .sub (t 70) (cN 1)),cO 11 (cM 71)]))).loop)) skip)).seq ((ops 0 [cO 101 (cM 2),cO 102 (cM 9),cO 103 (cB .sub (t 101) (t 102)),cO 104 (cB .geq (t 103) (cN 2))]).seq (C2.cond (t 104) ((ops 0 [cO 105 (cM 9),cO 106 (cB .add (t 105) (cN 1)),cO 12 (cM 106)]).seq (block 6 (((ops 0 [cO 107 (cM 12),cO 108 (cM 2),cO 109 (cB .lss (t 107) (t 108))]).seq (C2.cond (t 109) skip (exit 6))).seq ((block 7 (((mixS 1 [cO 112 (cM 3),cO 113 (cM 0),cO 114 (cM 12),cO 115 (ixaS 1 (t 113) (t 114)),cO 116 (cD 115),cO 117 (cM 0),cO 118 (cM 12),cO 119 (cB .sub (t 118) (cN 1)),cO 120 (ixaS 1 (t 117) (t 119)),cO 121 (cD 120),cO 122 (call (t 112) [t 116,t 121]),cO 123 (cB .lss (t 122) (cN 0)),cO 124 (un UnOp.not (t 123))] [(0,0),(1,0),(2,0),(3,0),(4,0),(5,0),(6,0),(7,0),(8,0),(9,0),(10,2),(11,0),(12,0)]).seq (C2.cond (t 124) (exit 6) skip)).seq (ops 1 [cO 125 (cM 0),cO 126 (cM 12),cO 127 (cM 0),cO 128 (cM 12),cO 129 (cB .sub (t 128) (cN 1)),cO 130 (cM 0),cO 131 (cM 12),cO 132 (cB .sub (t 131) (cN 1)),cO 133 (ixaS 1 (t 130) (t 132)),cO 134 (cD 133),cO 135 (cM 0),cO 136 (cM 12),cO 137 (ixaS 1 (t 135) (t 136)),cO 138 (cD 137),cO 139 (ixaS 1 (t 125) (t 126)),Op2.mk none none (Ins.st 1 (t 139) (t 134)),cO 140 (ixaS 1 (t 127) (t 129)),Op2.mk none none (Ins.st 1 (t 140) (t 138))]))).seq (ops 0 [cO 110 (cM 12),cO 111 (cB .add (t 110) (cN 1)),cO 12 (cM 111)]))).loop)) skip)))))))).seq (ops 0 [cO 17 (cM 10),cO 18 (cB .add (t 17) (cN 1)),cO 10 (cM 18)]))).loop)).seq ((ops 0 [cO 8 (mov ay)]).seq ret)))))
theorem yZ:Is Try.prog 77 b77:=Is.mk' Try.func77 (by kernel_rfl)
def b78:F2:=(F2.mk 90 [RV.t 10] ((ops 0 [cO 10 (mov (cN 0))]).seq ((ops 1 [cO 13 (cM 0),cO 14 (cM 1),cO 15 (cM 0),cO 16 (cM 3),cO 17 (cM 0),cO 18 (cM 3),cO 19 (ixaS 1 (t 17) (t 18)),cO 20 (cD 19),cO 21 (cM 0),cO 22 (cM 1),cO 23 (ixaS 1 (t 21) (t 22)),cO 24 (cD 23),cO 25 (ixaS 1 (t 13) (t 14)),Op2.mk none none (Ins.st 1 (t 25) (t 20)),cO 26 (ixaS 1 (t 15) (t 16)),Op2.mk none none (Ins.st 1 (t 26) (t 24))]).seq ((ops 0 [cO 27 (cM 1),cO 28 (cB .add (t 27) (cN 1)),cO 29 (cM 2),cO 30 (cB .sub (t 29) (cN 1)),cO 11 (cM 28),cO 12 (cM 30)]).seq ((block 0 (block 1 ((block 2 (((mixS 1 [cO 31 (cM 11),cO 32 (cM 12),cO 33 (cB .leq (t 31) (t 32)),cO 34 (cM 33),cG 35 34 true (cM 4),cG 36 34 true (cM 0),cG 37 34 true (cM 1),cG 38 34 true (ixaS 1 (t 36) (t 37)),cG 39 34 true (cD 38),cG 40 34 true (cM 0),cG 41 34 true (cM 11),cG 42 34 true (ixaS 1 (t 40) (t 41)),cG 43 34 true (cD 42),cG 44 34 true (call (t 35) [t 39,t 43]),cG 45 34 true (cB .lss (t 44) (cN 0)),cG 46 34 true (un UnOp.not (t 45)),cO 47 (pick (t 34) (t 46) ay)] [(0,0),(1,0),(2,0),(3,0),(4,0),(5,0),(6,0),(7,0),(8,0),(9,0),(10,0),(11,0),(12,0),(13,2),(14,0),(15,0),(16,0)]).seq (C2.cond (t 47) skip (exit 2))).seq (block 3 (ops 0 [cO 48 (cM 11),cO 49 (cB .add (t 48) (cN 1)),cO 11 (cM 49)]))).loop).seq ((block 4 (((mixS 1 [cO 50 (cM 11),cO 51 (cM 12),cO 52 (cB .leq (t 50) (t 51)),cO 53 (cM 52),cG 54 53 true (cM 4),cG 55 53 true (cM 0),cG 56 53 true (cM 1),cG 57 53 true (ixaS 1 (t 55) (t 56)),cG 58 53 true (cD 57),cG 59 53 true (cM 0),cG 60 53 true (cM 12),cG 61 53 true (ixaS 1 (t 59) (t 60)),cG 62 53 true (cD 61),cG 63 53 true (call (t 54) [t 58,t 62]),cG 64 53 true (cB .lss (t 63) (cN 0)),cO 65 (pick (t 53) (t 64) ay)] [(0,0),(1,0),(2,0),(3,0),(4,0),(5,0),(6,0),(7,0),(8,0),(9,0),(10,0),(11,0),(12,0),(13,2),(14,0),(15,0)]).seq (C2.cond (t 65) skip (exit 4))).seq (block 5 (ops 0 [cO 66 (cM 12),cO 67 (cB .sub (t 66) (cN 1)),cO 12 (cM 67)]))).loop).seq (((ops 0 [cO 68 (cM 11),cO 69 (cM 12),cO 70 (cB .gtr (t 68) (t 69))]).seq (C2.cond (t 70) (exit 0) skip)).seq ((ops 1 [cO 71 (cM 0),cO 72 (cM 11),cO 73 (cM 0),cO 74 (cM 12),cO 75 (cM 0),cO 76 (cM 12),cO 77 (ixaS 1 (t 75) (t 76)),cO 78 (cD 77),cO 79 (cM 0),cO 80 (cM 11),cO 81 (ixaS 1 (t 79) (t 80)),cO 82 (cD 81),cO 83 (ixaS 1 (t 71) (t 72)),Op2.mk none none (Ins.st 1 (t 83) (t 78)),cO 84 (ixaS 1 (t 73) (t 74)),Op2.mk none none (Ins.st 1 (t 84) (t 82))]).seq ((ops 0 [cO 85 (cM 11),cO 86 (cB .add (t 85) (cN 1)),cO 11 (cM 86)]).seq (ops 0 [cO 87 (cM 12),cO 88 (cB .sub (t 87) (cN 1)),cO 12 (cM 88)]))))))).loop).seq ((ops 0 [cO 89 (cM 11),cO 10 (cM 89)]).seq ret))))))
theorem zh:Is Try.prog 78 b78:=Is.mk' Try.func78 (by kernel_rfl)
def b79:F2:=(F2.mk 178 [RV.t 10,RV.t 11] ((ops 0 [cO 10 (mov (cN 0)),cO 11 (mov ay)]).seq ((ops 1 [cO 14 (cM 0),cO 15 (cM 1),cO 16 (cM 0),cO 17 (cM 3),cO 18 (cM 0),cO 19 (cM 3),cO 20 (ixaS 1 (t 18) (t 19)),cO 21 (cD 20),cO 22 (cM 0),cO 23 (cM 1),cO 24 (ixaS 1 (t 22) (t 23)),cO 25 (cD 24),cO 26 (ixaS 1 (t 14) (t 15)),Op2.mk none none (Ins.st 1 (t 26) (t 21)),cO 27 (ixaS 1 (t 16) (t 17)),Op2.mk none none (Ins.st 1 (t 27) (t 25))]).seq ((ops 0 [cO 28 (cM 1),cO 29 (cB .add (t 28) (cN 1)),cO 30 (cM 2),cO 31 (cB .sub (t 30) (cN 1)),cO 12 (cM 29),cO 13 (cM 31)]).seq ((block 0 (((mixS 1 [cO 32 (cM 12),cO 33 (cM 13),cO 34 (cB .leq (t 32) (t 33)),cO 35 (cM 34),cG 36 35 true (cM 4),cG 37 35 true (cM 0),cG 38 35 true (cM 12),cG 39 35 true (ixaS 1 (t 37) (t 38)),cG 40 35 true (cD 39),cG 41 35 true (cM 0),cG 42 35 true (cM 1),cG 43 35 true (ixaS 1 (t 41) (t 42)),cG 44 35 true (cD 43),cG 45 35 true (call (t 36) [t 40,t 44]),cG 46 35 true (cB .lss (t 45) (cN 0)),cO 47 (pick (t 35) (t 46) ay)] [(0,0),(1,0),(2,0),(3,0),(4,0),(5,0),(6,0),(7,0),(8,0),(9,0),(10,0),(11,0),(12,0),(13,2),(14,0),(15,0)]).seq (C2.cond (t 47) skip (exit 0))).seq (block 1 (ops 0 [cO 48 (cM 12),cO 49 (cB .add (t 48) (cN 1)),cO 12 (cM 49)]))).loop).seq ((block 2 (((mixS 1 [cO 50 (cM 12),cO 51 (cM 13),cO 52 (cB .leq (t 50) (t 51)),cO 53 (cM 52),cG 54 53 true (cM 4),cG 55 53 true (cM 0),cG 56 53 true (cM 13),cG 57 53 true (ixaS 1 (t 55) (t 56)),cG 58 53 true (cD 57),cG 59 53 true (cM 0),cG 60 53 true (cM 1),cG 61 53 true (ixaS 1 (t 59) (t 60)),cG 62 53 true (cD 61),cG 63 53 true (call (t 54) [t 58,t 62]),cG 64 53 true (cB .lss (t 63) (cN 0)),cG 65 53 true (un UnOp.not (t 64)),cO 66 (pick (t 53) (t 65) ay)] [(0,0),(1,0),(2,0),(3,0),(4,0),(5,0),(6,0),(7,0),(8,0),(9,0),(10,0),(11,0),(12,0),(13,2),(14,0),(15,0),(16,0)]).seq (C2.cond (t 66) skip (exit 2))).seq (block 3 (ops 0 [cO 67 (cM 13),cO 68 (cB .sub (t 67) (cN 1)),cO 13 (cM 68)]))).loop).seq (((ops 0 [cO 69 (cM 12),cO 70 (cM 13),cO 71 (cB .gtr (t 69) (t 70))]).seq (C2.cond (t 71) ((ops 1 [cO 72 (cM 0),cO 73 (cM 13),cO 74 (cM 0),cO 75 (cM 1),cO 76 (cM 0),cO 77 (cM 1),cO 78 (ixaS 1 (t 76) (t 77)),cO 79 (cD 78),cO 80 (cM 0),cO 81 (cM 13),cO 82 (ixaS 1 (t 80) (t 81)),cO 83 (cD 82),cO 84 (ixaS 1 (t 72) (t 73)),Op2.mk none none (Ins.st 1 (t 84) (t 79)),cO 85 (ixaS 1 (t 74) (t 75)),Op2.mk none none (Ins.st 1 (t 85) (t 83))]).seq ((ops 0 [cO 86 (cM 13),cO 10 (cM 86),cO 11 (mov aO)]).seq ret)) skip)).seq ((ops 1 [cO 87 (cM 0),cO 88 (cM 12),cO 89 (cM 0),cO 90 (cM 13),cO 91 (cM 0),cO 92 (cM 13),cO 93 (ixaS 1 (t 91) (t 92)),cO 94 (cD 93),cO 95 (cM 0),cO 96 (cM 12),cO 97 (ixaS 1 (t 95) (t 96)),cO 98 (cD 97),cO 99 (ixaS 1 (t 87) (t 88)),Op2.mk none none (Ins.st 1 (t 99) (t 94)),cO 100 (ixaS 1 (t 89) (t 90)),Op2.mk none none (Ins.st 1 (t 100) (t 98))]).seq ((ops 0 [cO 101 (cM 12),cO 102 (cB .add (t 101) (cN 1)),cO 12 (cM 102)]).seq ((ops 0 [cO 103 (cM 13),cO 104 (cB .sub (t 103) (cN 1)),cO 13 (cM 104)]).seq ((block 4 (block 5 ((block 6 (((mixS 1 [cO 105 (cM 12),cO 106 (cM 13),cO 107 (cB .leq (t 105) (t 106)),cO 108 (cM 107),cG 109 108 true (cM 4),cG 110 108 true (cM 0),cG 111 108 true (cM 12),cG 112 108 true (ixaS 1 (t 110) (t 111)),cG 113 108 true (cD 112),cG 114 108 true (cM 0),cG 115 108 true (cM 1),cG 116 108 true (ixaS 1 (t 114) (t 115)),cG 117 108 true (cD 116),cG 118 108 true (call (t 109) [t 113,t 117]),cG 119 108 true (cB .lss (t 118) (cN 0)),cO 120 (pick (t 108) (t 119) ay)] [(0,0),(1,0),(2,0),(3,0),(4,0),(5,0),(6,0),(7,0),(8,0),(9,0),(10,0),(11,0),(12,0),(13,2),(14,0),(15,0)]).seq (C2.cond (t 120) skip (exit 6))).seq (block 7 (ops 0 [cO 121 (cM 12),cO 122 (cB .add (t 121) (cN 1)),cO 12 (cM 122)]))).loop).seq ((block 8 (((mixS 1 [cO 123 (cM 12),cO 124 (cM 13),cO 125 (cB .leq (t 123) (t 124)),cO 126 (cM 125),cG 127 126 true (cM 4),cG 128 126 true (cM 0),cG 129 126 true (cM 13),cG 130 126 true (ixaS 1 (t 128) (t 129)),cG 131 126 true (cD 130),cG 132 126 true (cM 0),cG 133 126 true (cM 1),cG 134 126 true (ixaS 1 (t 132) (t 133)),cG 135 126 true (cD 134),cG 136 126 true (call (t 127) [t 131,t 135]),cG 137 126 true (cB .lss (t 136) (cN 0)),cG 138 126 true (un UnOp.not (t 137)),cO 139 (pick (t 126) (t 138) ay)] [(0,0),(1,0),(2,0),(3,0),(4,0),(5,0),(6,0),(7,0),(8,0),(9,0),(10,0),(11,0),(12,0),(13,2),(14,0),(15,0),(16,0)]).seq (C2.cond (t 139) skip (exit 8))).seq (block 9 (ops 0 [cO 140 (cM 13),cO 141 (cB .sub (t 140) (cN 1)),cO 13 (cM 141)]))).loop).seq (((ops 0 [cO 142 (cM 12),cO 143 (cM 13),cO 144 (cB .gtr (t 142) (t 143))]).seq (C2.cond (t 144) (exit 4) skip)).seq ((ops 1 [cO 145 (cM 0),cO 146 (cM 12),cO 147 (cM 0),cO 148 (cM 13),cO 149 (cM 0),cO 150 (cM 13),cO 151 (ixaS 1 (t 149) (t 150)),cO 152 (cD 151),cO 153 (cM 0),cO 154 (cM 12),cO 155 (ixaS 1 (t 153) (t 154)),cO 156 (cD 155),cO 157 (ixaS 1 (t 145) (t 146)),Op2.mk none none (Ins.st 1 (t 157) (t 152)),cO 158 (ixaS 1 (t 147) (t 148)),Op2.mk none none (Ins.st 1 (t 158) (t 156))]).seq ((ops 0 [cO 159 (cM 12),cO 160 (cB .add (t 159) (cN 1)),cO 12 (cM 160)]).seq (ops 0 [cO 161 (cM 13),cO 162 (cB .sub (t 161) (cN 1)),cO 13 (cM 162)]))))))).loop).seq ((ops 1 [cO 163 (cM 0),cO 164 (cM 13),cO 165 (cM 0),cO 166 (cM 1),cO 167 (cM 0),cO 168 (cM 1),cO 169 (ixaS 1 (t 167) (t 168)),cO 170 (cD 169),cO 171 (cM 0),cO 172 (cM 13),cO 173 (ixaS 1 (t 171) (t 172)),cO 174 (cD 173),cO 175 (ixaS 1 (t 163) (t 164)),Op2.mk none none (Ins.st 1 (t 175) (t 170)),cO 176 (ixaS 1 (t 165) (t 166)),Op2.mk none none (Ins.st 1 (t 176) (t 174))]).seq ((ops 0 [cO 177 (cM 13),cO 10 (cM 177),cO 11 (mov ay)]).seq ret)))))))))))))
theorem yo:Is Try.prog 79 b79:=Is.mk' Try.func79 (by kernel_rfl)
def b80:F2:=(F2.mk 19 [RV.t 2] ((ops 0 [cO 2 (mov (cN 0))]).seq (((ops 0 [cO 3 (cM 0),cO 4 (cB .geq (t 3) (c (AV.int IntKind.u32 (65536))))]).seq (C2.cond (t 4) ((ops 0 [cO 5 (cM 0),cO 6 (cB .shr (t 5) (c (AV.int IntKind.u64 (16)))),cO 0 (cM 6)]).seq (ops 0 [cO 2 (mov (cN 16))])) skip)).seq (((ops 0 [cO 7 (cM 0),cO 8 (cB .geq (t 7) (c (AV.int IntKind.u32 (256))))]).seq (C2.cond (t 8) ((ops 0 [cO 9 (cM 0),cO 10 (cB .shr (t 9) (c (AV.int IntKind.u64 (8)))),cO 0 (cM 10)]).seq (ops 0 [cO 11 (cM 2),cO 12 (cB .add (t 11) (cN 8)),cO 2 (cM 12)])) skip)).seq ((ops 0 [cO 13 (cM 2),cO 14 (cM 0),cO 15 (conv IntKind.u8 (t 14)),cO 16 (ixStr (c (AV.str (ByteArray.mk (Array.mk [0,1,2,2,3,3,3,3,4,4,4,4,4,4,4,4,5,5,5,5,5,5,5,5,5,5,5,5,5,5,5,5,6,6,6,6,6,6,6,6,6,6,6,6,6,6,6,6,6,6,6,6,6,6,6,6,6,6,6,6,6,6,6,6,7,7,7,7,7,7,7,7,7,7,7,7,7,7,7,7,7,7,7,7,7,7,7,7,7,7,7,7,7,7,7,7,7,7,7,7,7,7,7,7,7,7,7,7,7,7,7,7,7,7,7,7,7,7,7,7,7,7,7,7,7,7,7,7,8,8,8,8,8,8,8,8,8,8,8,8,8,8,8,8,8,8,8,8,8,8,8,8,8,8,8,8,8,8,8,8,8,8,8,8,8,8,8,8,8,8,8,8,8,8,8,8,8,8,8,8,8,8,8,8,8,8,8,8,8,8,8,8,8,8,8,8,8,8,8,8,8,8,8,8,8,8,8,8,8,8,8,8,8,8,8,8,8,8,8,8,8,8,8,8,8,8,8,8,8,8,8,8,8,8,8,8,8,8,8,8,8,8,8,8,8,8,8,8,8,8,8,8,8,8,8,8])))) (t 15)),cO 17 (conv IntKind.i64 (t 16)),cO 18 (cB .add (t 13) (t 17)),cO 2 (cM 18)]).seq ret)))))
theorem Ae:Is Try.prog 80 b80:=Is.mk' Try.func80 (by kernel_rfl)
def b81:F2:=(F2.mk 25 [RV.t 2] ((ops 0 [cO 2 (mov (cN 0))]).seq (((ops 0 [cO 3 (cM 0),cO 4 (cB .geq (t 3) (c (AV.int IntKind.u64 (4294967296))))]).seq (C2.cond (t 4) ((ops 0 [cO 5 (cM 0),cO 6 (cB .shr (t 5) (c (AV.int IntKind.u64 (32)))),cO 0 (cM 6)]).seq (ops 0 [cO 2 (mov (cN 32))])) skip)).seq (((ops 0 [cO 7 (cM 0),cO 8 (cB .geq (t 7) (c (AV.int IntKind.u64 (65536))))]).seq (C2.cond (t 8) ((ops 0 [cO 9 (cM 0),cO 10 (cB .shr (t 9) (c (AV.int IntKind.u64 (16)))),cO 0 (cM 10)]).seq (ops 0 [cO 11 (cM 2),cO 12 (cB .add (t 11) (cN 16)),cO 2 (cM 12)])) skip)).seq (((ops 0 [cO 13 (cM 0),cO 14 (cB .geq (t 13) (c (AV.int IntKind.u64 (256))))]).seq (C2.cond (t 14) ((ops 0 [cO 15 (cM 0),cO 16 (cB .shr (t 15) (c (AV.int IntKind.u64 (8)))),cO 0 (cM 16)]).seq (ops 0 [cO 17 (cM 2),cO 18 (cB .add (t 17) (cN 8)),cO 2 (cM 18)])) skip)).seq ((ops 0 [cO 19 (cM 2),cO 20 (cM 0),cO 21 (conv IntKind.u8 (t 20)),cO 22 (ixStr (c (AV.str (ByteArray.mk (Array.mk [0,1,2,2,3,3,3,3,4,4,4,4,4,4,4,4,5,5,5,5,5,5,5,5,5,5,5,5,5,5,5,5,6,6,6,6,6,6,6,6,6,6,6,6,6,6,6,6,6,6,6,6,6,6,6,6,6,6,6,6,6,6,6,6,7,7,7,7,7,7,7,7,7,7,7,7,7,7,7,7,7,7,7,7,7,7,7,7,7,7,7,7,7,7,7,7,7,7,7,7,7,7,7,7,7,7,7,7,7,7,7,7,7,7,7,7,7,7,7,7,7,7,7,7,7,7,7,7,8,8,8,8,8,8,8,8,8,8,8,8,8,8,8,8,8,8,8,8,8,8,8,8,8,8,8,8,8,8,8,8,8,8,8,8,8,8,8,8,8,8,8,8,8,8,8,8,8,8,8,8,8,8,8,8,8,8,8,8,8,8,8,8,8,8,8,8,8,8,8,8,8,8,8,8,8,8,8,8,8,8,8,8,8,8,8,8,8,8,8,8,8,8,8,8,8,8,8,8,8,8,8,8,8,8,8,8,8,8,8,8,8,8,8,8,8,8,8,8,8,8,8,8,8,8,8,8])))) (t 21)),cO 23 (conv IntKind.i64 (t 22)),cO 24 (cB .add (t 19) (t 23)),cO 2 (cM 24)]).seq ret))))))
theorem xh:Is Try.prog 81 b81:=Is.mk' Try.func81 (by kernel_rfl)
def b82:F2:=(F2.mk 19 [RV.t 4] ((ops 0 [cO 4 (mov (cN 0))]).seq (((ops 0 [cO 6 (cM 0),cO 7 (lenS (t 6)),cO 8 (mov (cN 0))]).seq (block 0 ((ops 0 [cO 9 (cB .lss (t 8) (t 7))]).seq ((C2.cond (t 9) skip (exit 0)).seq ((block 1 ((ops 0 [cO 10 (cM 8),cO 5 (cM 10)]).seq ((ops 0 [cO 11 (cM 1),cO 12 (cM 0),cO 13 (cM 5),cO 14 (ixaS 1 (t 12) (t 13)),cO 15 (cD 14),cO 16 (call (t 11) [t 15])]).seq (C2.cond (t 16) ((ops 0 [cO 17 (cM 5),cO 4 (cM 17)]).seq ret) skip)))).seq (ops 0 [cO 18 (cB .add (t 8) (cN 1)),cO 8 (cM 18)])))).loop)).seq ((ops 0 [cO 4 (mov (cN ((-1))))]).seq ret))))
theorem y4:Is Try.prog 82 b82:=Is.mk' Try.func82 (by kernel_rfl)
def b83:F2:=(F2.mk 53 [] ((ops 0 [cO 10 (cM 1),cO 11 (cB .add (t 10) (cN 1)),cO 8 (cM 11)]).seq (block 0 (((ops 0 [cO 12 (cM 8),cO 13 (cM 2),cO 14 (cB .lss (t 12) (t 13))]).seq (C2.cond (t 14) skip (exit 0))).seq ((block 1 ((ops 0 [cO 17 (cM 8),cO 9 (cM 17)]).seq (block 2 (((mixS 1 [cO 18 (cM 9),cO 19 (cM 1),cO 20 (cB .gtr (t 18) (t 19)),cO 21 (cM 20),cG 22 21 true (cM 3),cG 23 21 true (cM 0),cG 24 21 true (cM 9),cG 25 21 true (ixaS 2 (t 23) (t 24)),cG 26 21 true (ldn 2 (t 25)),cG 27 21 true (cM 0),cG 28 21 true (cM 9),cG 29 21 true (cB .sub (t 28) (cN 1)),cG 30 21 true (ixaS 2 (t 27) (t 29)),cG 31 21 true (ldn 2 (t 30)),cG 32 21 true (call (t 22) [t 26,t 31]),cG 33 21 true (cB .lss (t 32) (cN 0)),cO 34 (pick (t 21) (t 33) ay)] [(0,0),(1,0),(2,0),(3,0),(4,0),(5,0),(6,0),(7,0),(8,0),(9,0),(10,0),(11,0),(12,0),(13,0),(14,2),(15,0),(16,0)]).seq (C2.cond (t 34) skip (exit 2))).seq ((block 3 (ops 1 [cO 37 (cM 0),cO 38 (cM 9),cO 39 (cM 0),cO 40 (cM 9),cO 41 (cB .sub (t 40) (cN 1)),cO 42 (cM 0),cO 43 (cM 9),cO 44 (cB .sub (t 43) (cN 1)),cO 45 (ixaS 2 (t 42) (t 44)),cO 46 (ldn 2 (t 45)),cO 47 (cM 0),cO 48 (cM 9),cO 49 (ixaS 2 (t 47) (t 48)),cO 50 (ldn 2 (t 49)),cO 51 (ixaS 2 (t 37) (t 38)),Op2.mk none none (Ins.st 2 (t 51) (t 46)),cO 52 (ixaS 2 (t 39) (t 41)),Op2.mk none none (Ins.st 2 (t 52) (t 50))])).seq (ops 0 [cO 35 (cM 9),cO 36 (cB .sub (t 35) (cN 1)),cO 9 (cM 36)]))).loop))).seq (ops 0 [cO 15 (cM 8),cO 16 (cB .add (t 15) (cN 1)),cO 8 (cM 16)]))).loop)))
theorem xO:Is Try.prog 83 b83:=Is.mk' Try.func83 (by kernel_rfl)
def b84:F2:=(F2.mk 60 [] ((ops 0 [cO 13 (cM 1),cO 8 (cM 13)]).seq ((ops 0 [cO 9 (mov (cN 0))]).seq ((ops 0 [cO 14 (cM 2),cO 15 (cM 1),cO 16 (cB .sub (t 14) (t 15)),cO 10 (cM 16)]).seq (((ops 0 [cO 17 (cM 10),cO 18 (cB .sub (t 17) (cN 1)),cO 19 (cB .quo (t 18) (cN 2)),cO 11 (cM 19)]).seq (block 0 (((ops 0 [cO 20 (cM 11),cO 21 (cB .geq (t 20) (cN 0))]).seq (C2.cond (t 21) skip (exit 0))).seq ((block 1 (ops 0 [cO 24 (cM 0),cO 25 (cM 11),cO 26 (cM 10),cO 27 (cM 8),cO 28 (cM 3),cO 29 (call (cF 97) [t 24,t 25,t 26,t 27,t 28])])).seq (ops 0 [cO 22 (cM 11),cO 23 (cB .sub (t 22) (cN 1)),cO 11 (cM 23)]))).loop)).seq ((ops 0 [cO 30 (cM 10),cO 31 (cB .sub (t 30) (cN 1)),cO 12 (cM 31)]).seq (block 2 (((ops 0 [cO 32 (cM 12),cO 33 (cB .geq (t 32) (cN 0))]).seq (C2.cond (t 33) skip (exit 2))).seq ((block 3 ((ops 1 [cO 36 (cM 0),cO 37 (cM 8),cO 38 (cM 0),cO 39 (cM 8),cO 40 (cM 12),cO 41 (cB .add (t 39) (t 40)),cO 42 (cM 0),cO 43 (cM 8),cO 44 (cM 12),cO 45 (cB .add (t 43) (t 44)),cO 46 (ixaS 2 (t 42) (t 45)),cO 47 (ldn 2 (t 46)),cO 48 (cM 0),cO 49 (cM 8),cO 50 (ixaS 2 (t 48) (t 49)),cO 51 (ldn 2 (t 50)),cO 52 (ixaS 2 (t 36) (t 37)),Op2.mk none none (Ins.st 2 (t 52) (t 47)),cO 53 (ixaS 2 (t 38) (t 41)),Op2.mk none none (Ins.st 2 (t 53) (t 51))]).seq (ops 0 [cO 54 (cM 0),cO 55 (cM 9),cO 56 (cM 12),cO 57 (cM 8),cO 58 (cM 3),cO 59 (call (cF 97) [t 54,t 55,t 56,t 57,t 58])]))).seq (ops 0 [cO 34 (cM 12),cO 35 (cB .sub (t 34) (cN 1)),cO 12 (cM 35)]))).loop)))))))
theorem yG:Is Try.prog 84 b84:=Is.mk' Try.func84 (by kernel_rfl)
def b85:F2:=(F2.mk 67 [] ((ops 0 [cO 13 (cM 2),cO 14 (cM 1),cO 15 (cB .sub (t 13) (t 14)),cO 8 (cM 15)]).seq ((ops 0 [cO 16 (cM 8),cO 17 (cB .geq (t 16) (cN 8))]).seq (C2.cond (t 17) ((ops 0 [cO 18 (cM 8),cO 19 (conv IntKind.u64 (t 18)),cO 9 (alloc (AV.int IntKind.u64 (0))),Op2.mk none none (Ins.st 1 (t 9) (t 19))]).seq ((ops 0 [cO 20 (cM 8),cO 21 (call (cF 93) [t 20]),cO 10 (cM 21)]).seq ((ops 0 [cO 22 (cM 1),cO 23 (cM 8),cO 24 (cB .quo (t 23) (cN 4)),cO 25 (cB .mul (t 24) (cN 2)),cO 26 (cB .add (t 22) (t 25)),cO 27 (cB .sub (t 26) (cN 1)),cO 11 (cM 27)]).seq (block 0 (((ops 0 [cO 28 (cM 11),cO 29 (cM 1),cO 30 (cM 8),cO 31 (cB .quo (t 30) (cN 4)),cO 32 (cB .mul (t 31) (cN 2)),cO 33 (cB .add (t 29) (t 32)),cO 34 (cB .add (t 33) (cN 1)),cO 35 (cB .leq (t 28) (t 34))]).seq (C2.cond (t 35) skip (exit 0))).seq ((block 1 ((ops 0 [cO 38 (call (cF 94) [t 9]),cO 39 (cM 10),cO 40 (cB .sub (t 39) (c (AV.int IntKind.u64 (1)))),cO 41 (cB .and (t 38) (t 40)),cO 42 (conv IntKind.i64 (t 41)),cO 12 (cM 42)]).seq (((ops 0 [cO 43 (cM 12),cO 44 (cM 8),cO 45 (cB .geq (t 43) (t 44))]).seq (C2.cond (t 45) (ops 0 [cO 46 (cM 12),cO 47 (cM 8),cO 48 (cB .sub (t 46) (t 47)),cO 12 (cM 48)]) skip)).seq (ops 1 [cO 49 (cM 0),cO 50 (cM 11),cO 51 (cM 0),cO 52 (cM 1),cO 53 (cM 12),cO 54 (cB .add (t 52) (t 53)),cO 55 (cM 0),cO 56 (cM 1),cO 57 (cM 12),cO 58 (cB .add (t 56) (t 57)),cO 59 (ixaS 2 (t 55) (t 58)),cO 60 (ldn 2 (t 59)),cO 61 (cM 0),cO 62 (cM 11),cO 63 (ixaS 2 (t 61) (t 62)),cO 64 (ldn 2 (t 63)),cO 65 (ixaS 2 (t 49) (t 50)),Op2.mk none none (Ins.st 2 (t 65) (t 60)),cO 66 (ixaS 2 (t 51) (t 54)),Op2.mk none none (Ins.st 2 (t 66) (t 64))])))).seq (ops 0 [cO 36 (cM 11),cO 37 (cB .add (t 36) (cN 1)),cO 11 (cM 37)]))).loop)))) skip))))
theorem zD:Is Try.prog 85 b85:=Is.mk' Try.func85 (by kernel_rfl)
def b86:F2:=(F2.mk 63 [RV.t 8,RV.t 9] ((ops 0 [cO 8 (mov (cN 0)),cO 9 (mov (cN 0))]).seq ((ops 0 [cO 15 (cM 2),cO 16 (cM 1),cO 17 (cB .sub (t 15) (t 16)),cO 10 (cM 17)]).seq ((ops 0 [cO 11 (alloc (AV.int IntKind.i64 (0)))]).seq ((ops 0 [cO 18 (cM 1),cO 19 (cM 10),cO 20 (cB .quo (t 19) (cN 4)),cO 21 (cB .mul (t 20) (cN 1)),cO 22 (cB .add (t 18) (t 21)),cO 12 (cM 22)]).seq ((ops 0 [cO 23 (cM 1),cO 24 (cM 10),cO 25 (cB .quo (t 24) (cN 4)),cO 26 (cB .mul (t 25) (cN 2)),cO 27 (cB .add (t 23) (t 26)),cO 13 (cM 27)]).seq ((ops 0 [cO 28 (cM 1),cO 29 (cM 10),cO 30 (cB .quo (t 29) (cN 4)),cO 31 (cB .mul (t 30) (cN 3)),cO 32 (cB .add (t 28) (t 31)),cO 14 (cM 32)]).seq (((ops 0 [cO 33 (cM 10),cO 34 (cB .geq (t 33) (cN 8))]).seq (C2.cond (t 34) (((ops 0 [cO 35 (cM 10),cO 36 (cB .geq (t 35) (cN 50))]).seq (C2.cond (t 36) ((ops 0 [cO 37 (cM 0),cO 38 (cM 12),cO 39 (cM 3),cO 40 (call (cF 98) [t 37,t 38,t 11,t 39]),cO 12 (cM 40)]).seq ((ops 0 [cO 41 (cM 0),cO 42 (cM 13),cO 43 (cM 3),cO 44 (call (cF 98) [t 41,t 42,t 11,t 43]),cO 13 (cM 44)]).seq (ops 0 [cO 45 (cM 0),cO 46 (cM 14),cO 47 (cM 3),cO 48 (call (cF 98) [t 45,t 46,t 11,t 47]),cO 14 (cM 48)]))) skip)).seq (ops 0 [cO 49 (cM 0),cO 50 (cM 12),cO 51 (cM 13),cO 52 (cM 14),cO 53 (cM 3),cO 54 (call (cF 99) [t 49,t 50,t 51,t 52,t 11,t 53]),cO 13 (cM 54)])) skip)).seq ((ops 0 [cO 55 (cD 11)]).seq (block 0 ((ops 0 [cO 58 (cB .eql (t 55) (cN 0)),cO 57 (cM 58)]).seq (C2.cond (t 57) ((ops 0 [cO 59 (cM 13),cO 8 (cM 59),cO 9 (mov (cN 1))]).seq ret) ((ops 0 [cO 61 (cB .eql (t 55) (cN 12)),cO 60 (cM 61)]).seq (C2.cond (t 60) ((ops 0 [cO 62 (cM 13),cO 8 (cM 62),cO 9 (mov (cN 2))]).seq ret) ((ops 0 [cO 56 (cM 13),cO 8 (cM 56),cO 9 (mov (cN 0))]).seq ret)))))))))))))))
theorem yA:Is Try.prog 86 b86:=Is.mk' Try.func86 (by kernel_rfl)
def b87:F2:=(F2.mk 34 [] ((ops 0 [cO 10 (cM 1),cO 8 (cM 10)]).seq ((ops 0 [cO 11 (cM 2),cO 12 (cB .sub (t 11) (cN 1)),cO 9 (cM 12)]).seq (block 0 (((ops 0 [cO 13 (cM 8),cO 14 (cM 9),cO 15 (cB .lss (t 13) (t 14))]).seq (C2.cond (t 15) skip (exit 0))).seq (block 1 ((ops 1 [cO 16 (cM 0),cO 17 (cM 8),cO 18 (cM 0),cO 19 (cM 9),cO 20 (cM 0),cO 21 (cM 9),cO 22 (ixaS 2 (t 20) (t 21)),cO 23 (ldn 2 (t 22)),cO 24 (cM 0),cO 25 (cM 8),cO 26 (ixaS 2 (t 24) (t 25)),cO 27 (ldn 2 (t 26)),cO 28 (ixaS 2 (t 16) (t 17)),Op2.mk none none (Ins.st 2 (t 28) (t 23)),cO 29 (ixaS 2 (t 18) (t 19)),Op2.mk none none (Ins.st 2 (t 29) (t 27))]).seq ((ops 0 [cO 30 (cM 8),cO 31 (cB .add (t 30) (cN 1)),cO 8 (cM 31)]).seq (ops 0 [cO 32 (cM 9),cO 33 (cB .sub (t 32) (cN 1)),cO 9 (cM 33)]))))).loop))))
theorem yU:Is Try.prog 87 b87:=Is.mk' Try.func87 (by kernel_rfl)
def b88:F2:=(F2.mk 141 [RV.t 8] ((ops 0 [cO 8 (mov ay)]).seq ((ops 0 [cO 13 (cM 1),cO 14 (cB .add (t 13) (cN 1)),cO 9 (cM 14)]).seq (((ops 0 [cO 10 (mov (cN 0))]).seq (block 0 (((ops 0 [cO 15 (cM 10),cO 16 (cB .lss (t 15) (cN 5))]).seq (C2.cond (t 16) skip (exit 0))).seq ((block 1 ((block 2 (((mixS 1 [cO 19 (cM 9),cO 20 (cM 2),cO 21 (cB .lss (t 19) (t 20)),cO 22 (cM 21),cG 23 22 true (cM 3),cG 24 22 true (cM 0),cG 25 22 true (cM 9),cG 26 22 true (ixaS 2 (t 24) (t 25)),cG 27 22 true (ldn 2 (t 26)),cG 28 22 true (cM 0),cG 29 22 true (cM 9),cG 30 22 true (cB .sub (t 29) (cN 1)),cG 31 22 true (ixaS 2 (t 28) (t 30)),cG 32 22 true (ldn 2 (t 31)),cG 33 22 true (call (t 23) [t 27,t 32]),cG 34 22 true (cB .lss (t 33) (cN 0)),cG 35 22 true (un UnOp.not (t 34)),cO 36 (pick (t 22) (t 35) ay)] [(0,0),(1,0),(2,0),(3,0),(4,0),(5,0),(6,0),(7,0),(8,0),(9,0),(10,0),(11,0),(12,0),(13,0),(14,2),(15,0),(16,0),(17,0)]).seq (C2.cond (t 36) skip (exit 2))).seq (block 3 (ops 0 [cO 37 (cM 9),cO 38 (cB .add (t 37) (cN 1)),cO 9 (cM 38)]))).loop).seq (((ops 0 [cO 39 (cM 9),cO 40 (cM 2),cO 41 (cB .eql (t 39) (t 40))]).seq (C2.cond (t 41) ((ops 0 [cO 8 (mov aO)]).seq ret) skip)).seq (((ops 0 [cO 42 (cM 2),cO 43 (cM 1),cO 44 (cB .sub (t 42) (t 43)),cO 45 (cB .lss (t 44) (cN 50))]).seq (C2.cond (t 45) ((ops 0 [cO 8 (mov ay)]).seq ret) skip)).seq ((ops 1 [cO 46 (cM 0),cO 47 (cM 9),cO 48 (cM 0),cO 49 (cM 9),cO 50 (cB .sub (t 49) (cN 1)),cO 51 (cM 0),cO 52 (cM 9),cO 53 (cB .sub (t 52) (cN 1)),cO 54 (ixaS 2 (t 51) (t 53)),cO 55 (ldn 2 (t 54)),cO 56 (cM 0),cO 57 (cM 9),cO 58 (ixaS 2 (t 56) (t 57)),cO 59 (ldn 2 (t 58)),cO 60 (ixaS 2 (t 46) (t 47)),Op2.mk none none (Ins.st 2 (t 60) (t 55)),cO 61 (ixaS 2 (t 48) (t 50)),Op2.mk none none (Ins.st 2 (t 61) (t 59))]).seq (((ops 0 [cO 62 (cM 9),cO 63 (cM 1),cO 64 (cB .sub (t 62) (t 63)),cO 65 (cB .geq (t 64) (cN 2))]).seq (C2.cond (t 65) ((ops 0 [cO 66 (cM 9),cO 67 (cB .sub (t 66) (cN 1)),cO 11 (cM 67)]).seq (block 4 (((ops 0 [cO 68 (cM 11),cO 69 (cB .geq (t 68) (cN 1))]).seq (C2.cond (t 69) skip (exit 4))).seq ((block 5 (((mixS 1 [cO 72 (cM 3),cO 73 (cM 0),cO 74 (cM 11),cO 75 (ixaS 2 (t 73) (t 74)),cO 76 (ldn 2 (t 75)),cO 77 (cM 0),cO 78 (cM 11),cO 79 (cB .sub (t 78) (cN 1)),cO 80 (ixaS 2 (t 77) (t 79)),cO 81 (ldn 2 (t 80)),cO 82 (call (t 72) [t 76,t 81]),cO 83 (cB .lss (t 82) (cN 0)),cO 84 (un UnOp.not (t 83))] [(0,0),(1,0),(2,0),(3,0),(4,0),(5,0),(6,0),(7,0),(8,0),(9,0),(10,2),(11,0),(12,0)]).seq (C2.cond (t 84) (exit 4) skip)).seq (ops 1 [cO 85 (cM 0),cO 86 (cM 11),cO 87 (cM 0),cO 88 (cM 11),cO 89 (cB .sub (t 88) (cN 1)),cO 90 (cM 0),cO 91 (cM 11),cO 92 (cB .sub (t 91) (cN 1)),cO 93 (ixaS 2 (t 90) (t 92)),cO 94 (ldn 2 (t 93)),cO 95 (cM 0),cO 96 (cM 11),cO 97 (ixaS 2 (t 95) (t 96)),cO 98 (ldn 2 (t 97)),cO 99 (ixaS 2 (t 85) (t 86)),Op2.mk none none (Ins.st 2 (t 99) (t 94)),cO 100 (ixaS 2 (t 87) (t 89)),Op2.mk none none (Ins.st 2 (t 100) (t 98))]))).seq (ops 0 [cO 70 (cM 11),cO 71 (cB .sub (t 70) (cN 1)),cO 11 (cM 71)]))).loop)) skip)).seq ((ops 0 [cO 101 (cM 2),cO 102 (cM 9),cO 103 (cB .sub (t 101) (t 102)),cO 104 (cB .geq (t 103) (cN 2))]).seq (C2.cond (t 104) ((ops 0 [cO 105 (cM 9),cO 106 (cB .add (t 105) (cN 1)),cO 12 (cM 106)]).seq (block 6 (((ops 0 [cO 107 (cM 12),cO 108 (cM 2),cO 109 (cB .lss (t 107) (t 108))]).seq (C2.cond (t 109) skip (exit 6))).seq ((block 7 (((mixS 1 [cO 112 (cM 3),cO 113 (cM 0),cO 114 (cM 12),cO 115 (ixaS 2 (t 113) (t 114)),cO 116 (ldn 2 (t 115)),cO 117 (cM 0),cO 118 (cM 12),cO 119 (cB .sub (t 118) (cN 1)),cO 120 (ixaS 2 (t 117) (t 119)),cO 121 (ldn 2 (t 120)),cO 122 (call (t 112) [t 116,t 121]),cO 123 (cB .lss (t 122) (cN 0)),cO 124 (un UnOp.not (t 123))] [(0,0),(1,0),(2,0),(3,0),(4,0),(5,0),(6,0),(7,0),(8,0),(9,0),(10,2),(11,0),(12,0)]).seq (C2.cond (t 124) (exit 6) skip)).seq (ops 1 [cO 125 (cM 0),cO 126 (cM 12),cO 127 (cM 0),cO 128 (cM 12),cO 129 (cB .sub (t 128) (cN 1)),cO 130 (cM 0),cO 131 (cM 12),cO 132 (cB .sub (t 131) (cN 1)),cO 133 (ixaS 2 (t 130) (t 132)),cO 134 (ldn 2 (t 133)),cO 135 (cM 0),cO 136 (cM 12),cO 137 (ixaS 2 (t 135) (t 136)),cO 138 (ldn 2 (t 137)),cO 139 (ixaS 2 (t 125) (t 126)),Op2.mk none none (Ins.st 2 (t 139) (t 134)),cO 140 (ixaS 2 (t 127) (t 129)),Op2.mk none none (Ins.st 2 (t 140) (t 138))]))).seq (ops 0 [cO 110 (cM 12),cO 111 (cB .add (t 110) (cN 1)),cO 12 (cM 111)]))).loop)) skip)))))))).seq (ops 0 [cO 17 (cM 10),cO 18 (cB .add (t 17) (cN 1)),cO 10 (cM 18)]))).loop)).seq ((ops 0 [cO 8 (mov ay)]).seq ret)))))
theorem yn:Is Try.prog 88 b88:=Is.mk' Try.func88 (by kernel_rfl)
def b89:F2:=(F2.mk 90 [RV.t 10] ((ops 0 [cO 10 (mov (cN 0))]).seq ((ops 1 [cO 13 (cM 0),cO 14 (cM 1),cO 15 (cM 0),cO 16 (cM 3),cO 17 (cM 0),cO 18 (cM 3),cO 19 (ixaS 2 (t 17) (t 18)),cO 20 (ldn 2 (t 19)),cO 21 (cM 0),cO 22 (cM 1),cO 23 (ixaS 2 (t 21) (t 22)),cO 24 (ldn 2 (t 23)),cO 25 (ixaS 2 (t 13) (t 14)),Op2.mk none none (Ins.st 2 (t 25) (t 20)),cO 26 (ixaS 2 (t 15) (t 16)),Op2.mk none none (Ins.st 2 (t 26) (t 24))]).seq ((ops 0 [cO 27 (cM 1),cO 28 (cB .add (t 27) (cN 1)),cO 29 (cM 2),cO 30 (cB .sub (t 29) (cN 1)),cO 11 (cM 28),cO 12 (cM 30)]).seq ((block 0 (block 1 ((block 2 (((mixS 1 [cO 31 (cM 11),cO 32 (cM 12),cO 33 (cB .leq (t 31) (t 32)),cO 34 (cM 33),cG 35 34 true (cM 4),cG 36 34 true (cM 0),cG 37 34 true (cM 1),cG 38 34 true (ixaS 2 (t 36) (t 37)),cG 39 34 true (ldn 2 (t 38)),cG 40 34 true (cM 0),cG 41 34 true (cM 11),cG 42 34 true (ixaS 2 (t 40) (t 41)),cG 43 34 true (ldn 2 (t 42)),cG 44 34 true (call (t 35) [t 39,t 43]),cG 45 34 true (cB .lss (t 44) (cN 0)),cG 46 34 true (un UnOp.not (t 45)),cO 47 (pick (t 34) (t 46) ay)] [(0,0),(1,0),(2,0),(3,0),(4,0),(5,0),(6,0),(7,0),(8,0),(9,0),(10,0),(11,0),(12,0),(13,2),(14,0),(15,0),(16,0)]).seq (C2.cond (t 47) skip (exit 2))).seq (block 3 (ops 0 [cO 48 (cM 11),cO 49 (cB .add (t 48) (cN 1)),cO 11 (cM 49)]))).loop).seq ((block 4 (((mixS 1 [cO 50 (cM 11),cO 51 (cM 12),cO 52 (cB .leq (t 50) (t 51)),cO 53 (cM 52),cG 54 53 true (cM 4),cG 55 53 true (cM 0),cG 56 53 true (cM 1),cG 57 53 true (ixaS 2 (t 55) (t 56)),cG 58 53 true (ldn 2 (t 57)),cG 59 53 true (cM 0),cG 60 53 true (cM 12),cG 61 53 true (ixaS 2 (t 59) (t 60)),cG 62 53 true (ldn 2 (t 61)),cG 63 53 true (call (t 54) [t 58,t 62]),cG 64 53 true (cB .lss (t 63) (cN 0)),cO 65 (pick (t 53) (t 64) ay)] [(0,0),(1,0),(2,0),(3,0),(4,0),(5,0),(6,0),(7,0),(8,0),(9,0),(10,0),(11,0),(12,0),(13,2),(14,0),(15,0)]).seq (C2.cond (t 65) skip (exit 4))).seq (block 5 (ops 0 [cO 66 (cM 12),cO 67 (cB .sub (t 66) (cN 1)),cO 12 (cM 67)]))).loop).seq (((ops 0 [cO 68 (cM 11),cO 69 (cM 12),cO 70 (cB .gtr (t 68) (t 69))]).seq (C2.cond (t 70) (exit 0) skip)).seq ((ops 1 [cO 71 (cM 0),cO 72 (cM 11),cO 73 (cM 0),cO 74 (cM 12),cO 75 (cM 0),cO 76 (cM 12),cO 77 (ixaS 2 (t 75) (t 76)),cO 78 (ldn 2 (t 77)),cO 79 (cM 0),cO 80 (cM 11),cO 81 (ixaS 2 (t 79) (t 80)),cO 82 (ldn 2 (t 81)),cO 83 (ixaS 2 (t 71) (t 72)),Op2.mk none none (Ins.st 2 (t 83) (t 78)),cO 84 (ixaS 2 (t 73) (t 74)),Op2.mk none none (Ins.st 2 (t 84) (t 82))]).seq ((ops 0 [cO 85 (cM 11),cO 86 (cB .add (t 85) (cN 1)),cO 11 (cM 86)]).seq (ops 0 [cO 87 (cM 12),cO 88 (cB .sub (t 87) (cN 1)),cO 12 (cM 88)]))))))).loop).seq ((ops 0 [cO 89 (cM 11),cO 10 (cM 89)]).seq ret))))))
theorem yV:Is Try.prog 89 b89:=Is.mk' Try.func89 (by kernel_rfl)
def b90:F2:=(F2.mk 178 [RV.t 10,RV.t 11] ((ops 0 [cO 10 (mov (cN 0)),cO 11 (mov ay)]).seq ((ops 1 [cO 14 (cM 0),cO 15 (cM 1),cO 16 (cM 0),cO 17 (cM 3),cO 18 (cM 0),cO 19 (cM 3),cO 20 (ixaS 2 (t 18) (t 19)),cO 21 (ldn 2 (t 20)),cO 22 (cM 0),cO 23 (cM 1),cO 24 (ixaS 2 (t 22) (t 23)),cO 25 (ldn 2 (t 24)),cO 26 (ixaS 2 (t 14) (t 15)),Op2.mk none none (Ins.st 2 (t 26) (t 21)),cO 27 (ixaS 2 (t 16) (t 17)),Op2.mk none none (Ins.st 2 (t 27) (t 25))]).seq ((ops 0 [cO 28 (cM 1),cO 29 (cB .add (t 28) (cN 1)),cO 30 (cM 2),cO 31 (cB .sub (t 30) (cN 1)),cO 12 (cM 29),cO 13 (cM 31)]).seq ((block 0 (((mixS 1 [cO 32 (cM 12),cO 33 (cM 13),cO 34 (cB .leq (t 32) (t 33)),cO 35 (cM 34),cG 36 35 true (cM 4),cG 37 35 true (cM 0),cG 38 35 true (cM 12),cG 39 35 true (ixaS 2 (t 37) (t 38)),cG 40 35 true (ldn 2 (t 39)),cG 41 35 true (cM 0),cG 42 35 true (cM 1),cG 43 35 true (ixaS 2 (t 41) (t 42)),cG 44 35 true (ldn 2 (t 43)),cG 45 35 true (call (t 36) [t 40,t 44]),cG 46 35 true (cB .lss (t 45) (cN 0)),cO 47 (pick (t 35) (t 46) ay)] [(0,0),(1,0),(2,0),(3,0),(4,0),(5,0),(6,0),(7,0),(8,0),(9,0),(10,0),(11,0),(12,0),(13,2),(14,0),(15,0)]).seq (C2.cond (t 47) skip (exit 0))).seq (block 1 (ops 0 [cO 48 (cM 12),cO 49 (cB .add (t 48) (cN 1)),cO 12 (cM 49)]))).loop).seq ((block 2 (((mixS 1 [cO 50 (cM 12),cO 51 (cM 13),cO 52 (cB .leq (t 50) (t 51)),cO 53 (cM 52),cG 54 53 true (cM 4),cG 55 53 true (cM 0),cG 56 53 true (cM 13),cG 57 53 true (ixaS 2 (t 55) (t 56)),cG 58 53 true (ldn 2 (t 57)),cG 59 53 true (cM 0),cG 60 53 true (cM 1),cG 61 53 true (ixaS 2 (t 59) (t 60)),cG 62 53 true (ldn 2 (t 61)),cG 63 53 true (call (t 54) [t 58,t 62]),cG 64 53 true (cB .lss (t 63) (cN 0)),cG 65 53 true (un UnOp.not (t 64)),cO 66 (pick (t 53) (t 65) ay)] [(0,0),(1,0),(2,0),(3,0),(4,0),(5,0),(6,0),(7,0),(8,0),(9,0),(10,0),(11,0),(12,0),(13,2),(14,0),(15,0),(16,0)]).seq (C2.cond (t 66) skip (exit 2))).seq (block 3 (ops 0 [cO 67 (cM 13),cO 68 (cB .sub (t 67) (cN 1)),cO 13 (cM 68)]))).loop).seq (((ops 0 [cO 69 (cM 12),cO 70 (cM 13),cO 71 (cB .gtr (t 69) (t 70))]).seq (C2.cond (t 71) ((ops 1 [cO 72 (cM 0),cO 73 (cM 13),cO 74 (cM 0),cO 75 (cM 1),cO 76 (cM 0),cO 77 (cM 1),cO 78 (ixaS 2 (t 76) (t 77)),cO 79 (ldn 2 (t 78)),cO 80 (cM 0),cO 81 (cM 13),cO 82 (ixaS 2 (t 80) (t 81)),cO 83 (ldn 2 (t 82)),cO 84 (ixaS 2 (t 72) (t 73)),Op2.mk none none (Ins.st 2 (t 84) (t 79)),cO 85 (ixaS 2 (t 74) (t 75)),Op2.mk none none (Ins.st 2 (t 85) (t 83))]).seq ((ops 0 [cO 86 (cM 13),cO 10 (cM 86),cO 11 (mov aO)]).seq ret)) skip)).seq ((ops 1 [cO 87 (cM 0),cO 88 (cM 12),cO 89 (cM 0),cO 90 (cM 13),cO 91 (cM 0),cO 92 (cM 13),cO 93 (ixaS 2 (t 91) (t 92)),cO 94 (ldn 2 (t 93)),cO 95 (cM 0),cO 96 (cM 12),cO 97 (ixaS 2 (t 95) (t 96)),cO 98 (ldn 2 (t 97)),cO 99 (ixaS 2 (t 87) (t 88)),Op2.mk none none (Ins.st 2 (t 99) (t 94)),cO 100 (ixaS 2 (t 89) (t 90)),Op2.mk none none (Ins.st 2 (t 100) (t 98))]).seq ((ops 0 [cO 101 (cM 12),cO 102 (cB .add (t 101) (cN 1)),cO 12 (cM 102)]).seq ((ops 0 [cO 103 (cM 13),cO 104 (cB .sub (t 103) (cN 1)),cO 13 (cM 104)]).seq ((block 4 (block 5 ((block 6 (((mixS 1 [cO 105 (cM 12),cO 106 (cM 13),cO 107 (cB .leq (t 105) (t 106)),cO 108 (cM 107),cG 109 108 true (cM 4),cG 110 108 true (cM 0),cG 111 108 true (cM 12),cG 112 108 true (ixaS 2 (t 110) (t 111)),cG 113 108 true (ldn 2 (t 112)),cG 114 108 true (cM 0),cG 115 108 true (cM 1),cG 116 108 true (ixaS 2 (t 114) (t 115)),cG 117 108 true (ldn 2 (t 116)),cG 118 108 true (call (t 109) [t 113,t 117]),cG 119 108 true (cB .lss (t 118) (cN 0)),cO 120 (pick (t 108) (t 119) ay)] [(0,0),(1,0),(2,0),(3,0),(4,0),(5,0),(6,0),(7,0),(8,0),(9,0),(10,0),(11,0),(12,0),(13,2),(14,0),(15,0)]).seq (C2.cond (t 120) skip (exit 6))).seq (block 7 (ops 0 [cO 121 (cM 12),cO 122 (cB .add (t 121) (cN 1)),cO 12 (cM 122)]))).loop).seq ((block 8 (((mixS 1 [cO 123 (cM 12),cO 124 (cM 13),cO 125 (cB .leq (t 123) (t 124)),cO 126 (cM 125),cG 127 126 true (cM 4),cG 128 126 true (cM 0),cG 129 126 true (cM 13),cG 130 126 true (ixaS 2 (t 128) (t 129)),cG 131 126 true (ldn 2 (t 130)),cG 132 126 true (cM 0),cG 133 126 true (cM 1),cG 134 126 true (ixaS 2 (t 132) (t 133)),cG 135 126 true (ldn 2 (t 134)),cG 136 126 true (call (t 127) [t 131,t 135]),cG 137 126 true (cB .lss (t 136) (cN 0)),cG 138 126 true (un UnOp.not (t 137)),cO 139 (pick (t 126) (t 138) ay)] [(0,0),(1,0),(2,0),(3,0),(4,0),(5,0),(6,0),(7,0),(8,0),(9,0),(10,0),(11,0),(12,0),(13,2),(14,0),(15,0),(16,0)]).seq (C2.cond (t 139) skip (exit 8))).seq (block 9 (ops 0 [cO 140 (cM 13),cO 141 (cB .sub (t 140) (cN 1)),cO 13 (cM 141)]))).loop).seq (((ops 0 [cO 142 (cM 12),cO 143 (cM 13),cO 144 (cB .gtr (t 142) (t 143))]).seq (C2.cond (t 144) (exit 4) skip)).seq ((ops 1 [cO 145 (cM 0),cO 146 (cM 12),cO 147 (cM 0),cO 148 (cM 13),cO 149 (cM 0),cO 150 (cM 13),cO 151 (ixaS 2 (t 149) (t 150)),cO 152 (ldn 2 (t 151)),cO 153 (cM 0),cO 154 (cM 12),cO 155 (ixaS 2 (t 153) (t 154)),cO 156 (ldn 2 (t 155)),cO 157 (ixaS 2 (t 145) (t 146)),Op2.mk none none (Ins.st 2 (t 157) (t 152)),cO 158 (ixaS 2 (t 147) (t 148)),Op2.mk none none (Ins.st 2 (t 158) (t 156))]).seq ((ops 0 [cO 159 (cM 12),cO 160 (cB .add (t 159) (cN 1)),cO 12 (cM 160)]).seq (ops 0 [cO 161 (cM 13),cO 162 (cB .sub (t 161) (cN 1)),cO 13 (cM 162)]))))))).loop).seq ((ops 1 [cO 163 (cM 0),cO 164 (cM 13),cO 165 (cM 0),cO 166 (cM 1),cO 167 (cM 0),cO 168 (cM 1),cO 169 (ixaS 2 (t 167) (t 168)),cO 170 (ldn 2 (t 169)),cO 171 (cM 0),cO 172 (cM 13),cO 173 (ixaS 2 (t 171) (t 172)),cO 174 (ldn 2 (t 173)),cO 175 (ixaS 2 (t 163) (t 164)),Op2.mk none none (Ins.st 2 (t 175) (t 170)),cO 176 (ixaS 2 (t 165) (t 166)),Op2.mk none none (Ins.st 2 (t 176) (t 174))]).seq ((ops 0 [cO 177 (cM 13),cO 10 (cM 177),cO 11 (mov ay)]).seq ret)))))))))))))
theorem y8:Is Try.prog 90 b90:=Is.mk' Try.func90 (by kernel_rfl)
def b91:F2:=(F2.mk 6 [RV.t 2] ((ops 0 [cO 2 (mov ay)]).seq ((ops 0 [cO 3 (cM 0),cO 4 (cM 0),cO 5 (cB .neq (t 3) (t 4)),cO 2 (cM 5)]).seq ret)))
theorem y9:Is Try.prog 91 b91:=Is.mk' Try.func91 (by kernel_rfl)
def b92:F2:=(F2.mk 82 [] ((ops 0 [cO 12 (cM 1),cO 10 (cM 12)]).seq (block 0 (block 1 ((ops 0 [cO 13 (cM 10),cO 14 (cB .mul (cN 2) (t 13)),cO 15 (cB .add (t 14) (cN 1)),cO 11 (cM 15)]).seq (((ops 0 [cO 16 (cM 11),cO 17 (cM 2),cO 18 (cB .geq (t 16) (t 17))]).seq (C2.cond (t 18) (exit 0) skip)).seq (((mixS 1 [cO 19 (cM 11),cO 20 (cB .add (t 19) (cN 1)),cO 21 (cM 2),cO 22 (cB .lss (t 20) (t 21)),cO 23 (cM 22),cG 24 23 true (cM 4),cG 25 23 true (cM 0),cG 26 23 true (cM 3),cG 27 23 true (cM 11),cG 28 23 true (cB .add (t 26) (t 27)),cG 29 23 true (ixaS 1 (t 25) (t 28)),cG 30 23 true (cD 29),cG 31 23 true (cM 0),cG 32 23 true (cM 3),cG 33 23 true (cM 11),cG 34 23 true (cB .add (t 32) (t 33)),cG 35 23 true (cB .add (t 34) (cN 1)),cG 36 23 true (ixaS 1 (t 31) (t 35)),cG 37 23 true (cD 36),cG 38 23 true (call (t 24) [t 30,t 37]),cG 39 23 true (cB .lss (t 38) (cN 0)),cO 40 (pick (t 23) (t 39) ay)] [(0,0),(1,0),(2,0),(3,0),(4,0),(5,0),(6,0),(7,0),(8,0),(9,0),(10,0),(11,0),(12,0),(13,0),(14,0),(15,0),(16,0),(17,0),(18,0),(19,2),(20,0),(21,0)]).seq (C2.cond (t 40) (ops 0 [cO 41 (cM 11),cO 42 (cB .add (t 41) (cN 1)),cO 11 (cM 42)]) skip)).seq (((mixS 1 [cO 43 (cM 4),cO 44 (cM 0),cO 45 (cM 3),cO 46 (cM 10),cO 47 (cB .add (t 45) (t 46)),cO 48 (ixaS 1 (t 44) (t 47)),cO 49 (cD 48),cO 50 (cM 0),cO 51 (cM 3),cO 52 (cM 11),cO 53 (cB .add (t 51) (t 52)),cO 54 (ixaS 1 (t 50) (t 53)),cO 55 (cD 54),cO 56 (call (t 43) [t 49,t 55]),cO 57 (cB .lss (t 56) (cN 0)),cO 58 (un UnOp.not (t 57))] [(0,0),(1,0),(2,0),(3,0),(4,0),(5,0),(6,0),(7,0),(8,0),(9,0),(10,0),(11,0),(12,0),(13,2),(14,0),(15,0)]).seq (C2.cond (t 58) ret skip)).seq ((ops 1 [cO 59 (cM 0),cO 60 (cM 3),cO 61 (cM 10),cO 62 (cB .add (t 60) (t 61)),cO 63 (cM 0),cO 64 (cM 3),cO 65 (cM 11),cO 66 (cB .add (t 64) (t 65)),cO 67 (cM 0),cO 68 (cM 3),cO 69 (cM 11),cO 70 (cB .add (t 68) (t 69)),cO 71 (ixaS 1 (t 67) (t 70)),cO 72 (cD 71),cO 73 (cM 0),cO 74 (cM 3),cO 75 (cM 10),cO 76 (cB .add (t 74) (t 75)),cO 77 (ixaS 1 (t 73) (t 76)),cO 78 (cD 77),cO 79 (ixaS 1 (t 59) (t 62)),Op2.mk none none (Ins.st 1 (t 79) (t 72)),cO 80 (ixaS 1 (t 63) (t 66)),Op2.mk none none (Ins.st 1 (t 80) (t 78))]).seq (ops 0 [cO 81 (cM 11),cO 10 (cM 81)]))))))).loop)))
theorem zd:Is Try.prog 92 b92:=Is.mk' Try.func92 (by kernel_rfl)
def b93:F2:=(F2.mk 7 [RV.t 2] ((ops 0 [cO 2 (mov (c (AV.int IntKind.u64 (0))))]).seq ((ops 0 [cO 3 (cM 0),cO 4 (conv IntKind.u64 (t 3)),cO 5 (call (cF 62) [t 4]),cO 6 (cB .shl (c (AV.int IntKind.u64 (1))) (t 5)),cO 2 (cM 6)]).seq ret)))
theorem ze:Is Try.prog 93 b93:=Is.mk' Try.func93 (by kernel_rfl)
def b94:F2:=(F2.mk 33 [RV.t 2] ((ops 0 [cO 2 (mov (c (AV.int IntKind.u64 (0))))]).seq ((ops 1 [cO 3 (cM 0),cO 4 (nilck (t 3)),cO 5 (cD 4),cO 6 (cM 0),cO 7 (nilck (t 6)),cO 8 (cD 7),cO 9 (cB .shl (t 8) (c (AV.int IntKind.u64 (13)))),cO 10 (cB .xor (t 5) (t 9)),cO 11 (nilck (t 3)),Op2.mk none none (Ins.st 1 (t 11) (t 10))]).seq ((ops 1 [cO 12 (cM 0),cO 13 (nilck (t 12)),cO 14 (cD 13),cO 15 (cM 0),cO 16 (nilck (t 15)),cO 17 (cD 16),cO 18 (cB .shr (t 17) (c (AV.int IntKind.u64 (7)))),cO 19 (cB .xor (t 14) (t 18)),cO 20 (nilck (t 12)),Op2.mk none none (Ins.st 1 (t 20) (t 19))]).seq ((ops 1 [cO 21 (cM 0),cO 22 (nilck (t 21)),cO 23 (cD 22),cO 24 (cM 0),cO 25 (nilck (t 24)),cO 26 (cD 25),cO 27 (cB .shl (t 26) (c (AV.int IntKind.u64 (17)))),cO 28 (cB .xor (t 23) (t 27)),cO 29 (nilck (t 21)),Op2.mk none none (Ins.st 1 (t 29) (t 28))]).seq ((ops 0 [cO 30 (cM 0),cO 31 (nilck (t 30)),cO 32 (cD 31),cO 2 (cM 32)]).seq ret))))))
theorem yv:Is Try.prog 94 b94:=Is.mk' Try.func94 (by kernel_rfl)
def b95:F2:=(F2.mk 18 [RV.t 8] ((ops 0 [cO 8 (mov (cN 0))]).seq ((ops 0 [cO 9 (cM 0),cO 10 (cM 1),cO 11 (cB .sub (t 10) (cN 1)),cO 12 (cM 1),cO 13 (cM 1),cO 14 (cB .add (t 13) (cN 1)),cO 15 (cM 2),cO 16 (cM 3),cO 17 (call (cF 96) [t 9,t 11,t 12,t 14,t 15,t 16]),cO 8 (cM 17)]).seq ret)))
theorem zu:Is Try.prog 95 b95:=Is.mk' Try.func95 (by kernel_rfl)
def b96:F2:=(F2.mk 41 [RV.t 12] ((ops 0 [cO 12 (mov (cN 0))]).seq ((ops 0 [cO 14 (cM 0),cO 15 (cM 1),cO 16 (cM 2),cO 17 (cM 4),cO 18 (cM 5),cO 19 (call (cF 100) [t 14,t 15,t 16,t 17,t 18]),cO 13 (cM 19),cO 20 (ext (t 13) 0),cO 21 (ext (t 13) 1),cO 1 (cM 20),cO 2 (cM 21)]).seq ((ops 0 [cO 23 (cM 0),cO 24 (cM 2),cO 25 (cM 3),cO 26 (cM 4),cO 27 (cM 5),cO 28 (call (cF 100) [t 23,t 24,t 25,t 26,t 27]),cO 22 (cM 28),cO 29 (ext (t 22) 0),cO 30 (ext (t 22) 1),cO 2 (cM 29),cO 3 (cM 30)]).seq ((ops 0 [cO 32 (cM 0),cO 33 (cM 1),cO 34 (cM 2),cO 35 (cM 4),cO 36 (cM 5),cO 37 (call (cF 100) [t 32,t 33,t 34,t 35,t 36]),cO 31 (cM 37),cO 38 (ext (t 31) 0),cO 39 (ext (t 31) 1),cO 1 (cM 38),cO 2 (cM 39)]).seq ((ops 0 [cO 40 (cM 2),cO 12 (cM 40)]).seq ret))))))
theorem y2:Is Try.prog 96 b96:=Is.mk' Try.func96 (by kernel_rfl)
def b97:F2:=(F2.mk 82 [] ((ops 0 [cO 12 (cM 1),cO 10 (cM 12)]).seq (block 0 (block 1 ((ops 0 [cO 13 (cM 10),cO 14 (cB .mul (cN 2) (t 13)),cO 15 (cB .add (t 14) (cN 1)),cO 11 (cM 15)]).seq (((ops 0 [cO 16 (cM 11),cO 17 (cM 2),cO 18 (cB .geq (t 16) (t 17))]).seq (C2.cond (t 18) (exit 0) skip)).seq (((mixS 1 [cO 19 (cM 11),cO 20 (cB .add (t 19) (cN 1)),cO 21 (cM 2),cO 22 (cB .lss (t 20) (t 21)),cO 23 (cM 22),cG 24 23 true (cM 4),cG 25 23 true (cM 0),cG 26 23 true (cM 3),cG 27 23 true (cM 11),cG 28 23 true (cB .add (t 26) (t 27)),cG 29 23 true (ixaS 2 (t 25) (t 28)),cG 30 23 true (ldn 2 (t 29)),cG 31 23 true (cM 0),cG 32 23 true (cM 3),cG 33 23 true (cM 11),cG 34 23 true (cB .add (t 32) (t 33)),cG 35 23 true (cB .add (t 34) (cN 1)),cG 36 23 true (ixaS 2 (t 31) (t 35)),cG 37 23 true (ldn 2 (t 36)),cG 38 23 true (call (t 24) [t 30,t 37]),cG 39 23 true (cB .lss (t 38) (cN 0)),cO 40 (pick (t 23) (t 39) ay)] [(0,0),(1,0),(2,0),(3,0),(4,0),(5,0),(6,0),(7,0),(8,0),(9,0),(10,0),(11,0),(12,0),(13,0),(14,0),(15,0),(16,0),(17,0),(18,0),(19,2),(20,0),(21,0)]).seq (C2.cond (t 40) (ops 0 [cO 41 (cM 11),cO 42 (cB .add (t 41) (cN 1)),cO 11 (cM 42)]) skip)).seq (((mixS 1 [cO 43 (cM 4),cO 44 (cM 0),cO 45 (cM 3),cO 46 (cM 10),cO 47 (cB .add (t 45) (t 46)),cO 48 (ixaS 2 (t 44) (t 47)),cO 49 (ldn 2 (t 48)),cO 50 (cM 0),cO 51 (cM 3),cO 52 (cM 11),cO 53 (cB .add (t 51) (t 52)),cO 54 (ixaS 2 (t 50) (t 53)),cO 55 (ldn 2 (t 54)),cO 56 (call (t 43) [t 49,t 55]),cO 57 (cB .lss (t 56) (cN 0)),cO 58 (un UnOp.not (t 57))] [(0,0),(1,0),(2,0),(3,0),(4,0),(5,0),(6,0),(7,0),(8,0),(9,0),(10,0),(11,0),(12,0),(13,2),(14,0),(15,0)]).seq (C2.cond (t 58) ret skip)).seq ((ops 1 [cO 59 (cM 0),cO 60 (cM 3),cO 61 (cM 10),cO 62 (cB .add (t 60) (t 61)),cO 63 (cM 0),cO 64 (cM 3),cO 65 (cM 11),cO 66 (cB .add (t 64) (t 65)),cO 67 (cM 0),cO 68 (cM 3),cO 69 (cM 11),cO 70 (cB .add (t 68) (t 69)),cO 71 (ixaS 2 (t 67) (t 70)),cO 72 (ldn 2 (t 71)),cO 73 (cM 0),cO 74 (cM 3),cO 75 (cM 10),cO 76 (cB .add (t 74) (t 75)),cO 77 (ixaS 2 (t 73) (t 76)),cO 78 (ldn 2 (t 77)),cO 79 (ixaS 2 (t 59) (t 62)),Op2.mk none none (Ins.st 2 (t 79) (t 72)),cO 80 (ixaS 2 (t 63) (t 66)),Op2.mk none none (Ins.st 2 (t 80) (t 78))]).seq (ops 0 [cO 81 (cM 11),cO 10 (cM 81)]))))))).loop)))
theorem yO:Is Try.prog 97 b97:=Is.mk' Try.func97 (by kernel_rfl)
def b98:F2:=(F2.mk 18 [RV.t 8] ((ops 0 [cO 8 (mov (cN 0))]).seq ((ops 0 [cO 9 (cM 0),cO 10 (cM 1),cO 11 (cB .sub (t 10) (cN 1)),cO 12 (cM 1),cO 13 (cM 1),cO 14 (cB .add (t 13) (cN 1)),cO 15 (cM 2),cO 16 (cM 3),cO 17 (call (cF 99) [t 9,t 11,t 12,t 14,t 15,t 16]),cO 8 (cM 17)]).seq ret)))
theorem zt:Is Try.prog 98 b98:=Is.mk' Try.func98 (by kernel_rfl)
def b99:F2:=(F2.mk 41 [RV.t 12] ((ops 0 [cO 12 (mov (cN 0))]).seq ((ops 0 [cO 14 (cM 0),cO 15 (cM 1),cO 16 (cM 2),cO 17 (cM 4),cO 18 (cM 5),cO 19 (call (cF 101) [t 14,t 15,t 16,t 17,t 18]),cO 13 (cM 19),cO 20 (ext (t 13) 0),cO 21 (ext (t 13) 1),cO 1 (cM 20),cO 2 (cM 21)]).seq ((ops 0 [cO 23 (cM 0),cO 24 (cM 2),cO 25 (cM 3),cO 26 (cM 4),cO 27 (cM 5),cO 28 (call (cF 101) [t 23,t 24,t 25,t 26,t 27]),cO 22 (cM 28),cO 29 (ext (t 22) 0),cO 30 (ext (t 22) 1),cO 2 (cM 29),cO 3 (cM 30)]).seq ((ops 0 [cO 32 (cM 0),cO 33 (cM 1),cO 34 (cM 2),cO 35 (cM 4),cO 36 (cM 5),cO 37 (call (cF 101) [t 32,t 33,t 34,t 35,t 36]),cO 31 (cM 37),cO 38 (ext (t 31) 0),cO 39 (ext (t 31) 1),cO 1 (cM 38),cO 2 (cM 39)]).seq ((ops 0 [cO 40 (cM 2),cO 12 (cM 40)]).seq ret))))))
theorem yx:Is Try.prog 99 b99:=Is.mk' Try.func99 (by kernel_rfl)
def xB:F2:=(F2.mk 32 [RV.t 10,RV.t 11] ((ops 0 [cO 10 (mov (cN 0)),cO 11 (mov (cN 0))]).seq (((mixS 1 [cO 12 (cM 4),cO 13 (cM 0),cO 14 (cM 2),cO 15 (ixaS 1 (t 13) (t 14)),cO 16 (cD 15),cO 17 (cM 0),cO 18 (cM 1),cO 19 (ixaS 1 (t 17) (t 18)),cO 20 (cD 19),cO 21 (call (t 12) [t 16,t 20]),cO 22 (cB .lss (t 21) (cN 0))] [(0,0),(1,0),(2,0),(3,0),(4,0),(5,0),(6,0),(7,0),(8,0),(9,2),(10,0)]).seq (C2.cond (t 22) ((ops 0 [cO 23 (cM 3),cO 24 (nilck (t 23)),cO 25 (cD 24),cO 26 (cB .add (t 25) (cN 1)),cO 27 (nilck (t 23)),Op2.mk none none (Ins.st 1 (t 27) (t 26))]).seq ((ops 0 [cO 28 (cM 2),cO 29 (cM 1),cO 10 (cM 28),cO 11 (cM 29)]).seq ret)) skip)).seq ((ops 0 [cO 30 (cM 1),cO 31 (cM 2),cO 10 (cM 30),cO 11 (cM 31)]).seq ret))))
theorem wS:Is Try.prog 100 xB:=Is.mk' Try.func100 (by kernel_rfl)
def xJ:F2:=(F2.mk 32 [RV.t 10,RV.t 11] ((ops 0 [cO 10 (mov (cN 0)),cO 11 (mov (cN 0))]).seq (((mixS 1 [cO 12 (cM 4),cO 13 (cM 0),cO 14 (cM 2),cO 15 (ixaS 2 (t 13) (t 14)),cO 16 (ldn 2 (t 15)),cO 17 (cM 0),cO 18 (cM 1),cO 19 (ixaS 2 (t 17) (t 18)),cO 20 (ldn 2 (t 19)),cO 21 (call (t 12) [t 16,t 20]),cO 22 (cB .lss (t 21) (cN 0))] [(0,0),(1,0),(2,0),(3,0),(4,0),(5,0),(6,0),(7,0),(8,0),(9,2),(10,0)]).seq (C2.cond (t 22) ((ops 0 [cO 23 (cM 3),cO 24 (nilck (t 23)),cO 25 (cD 24),cO 26 (cB .add (t 25) (cN 1)),cO 27 (nilck (t 23)),Op2.mk none none (Ins.st 1 (t 27) (t 26))]).seq ((ops 0 [cO 28 (cM 2),cO 29 (cM 1),cO 10 (cM 28),cO 11 (cM 29)]).seq ret)) skip)).seq ((ops 0 [cO 30 (cM 1),cO 31 (cM 2),cO 10 (cM 30),cO 11 (cM 31)]).seq ret))))
theorem wU:Is Try.prog 101 xJ:=Is.mk' Try.func101 (by kernel_rfl)
end Go.Proofs.Ytpfkjcjgdilkkaa
namespace Go.Proofs.Ytpfkjcjgdilkkaa
open Go Go.Abs
def swp {α:Type} [Inhabited α] (L:List α) (i j:Nat):List α:=(L.set i (L.getD j default)).set j (L.getD i default)
structure PermR {α:Type} [Inhabited α] (a b:Nat) (L L':List α):Prop where
 len:L'.length=L.length
 out:∀ i,i < a ∨ b ≤ i→L'.getD i default=L.getD i default
 perm:L'.Perm L
section
variable {α:Type} [Inhabited α] {a b a' b':Nat} {L L' L'':List α}
theorem cE {l:List α} {i j:Nat} {x:α} (h:i < l.length):(l.set i x).getD j default=if i=j then x else l.getD j default:=by
 simp only [List.getD,List.getElem?_set]
 split
 ·rename_i e; subst e; simp [h]
 ·rfl
theorem si (i j:Nat):(swp L i j).length=L.length:=by simp [swp]
theorem cq {i j:Nat} (hi:i < L.length) (hj:j < L.length) (k:Nat):(swp L i j).getD k default=if k=j then L.getD i default else if k=i then L.getD j default else L.getD k default:=by
 unfold swp
 rw [cE (by simpa using hj),cE hi]
 by_cases e:k=j
 ·subst e; simp
 ·rw [if_neg (fun h=>e h.symm),if_neg e]
  by_cases e2:k=i
  ·subst e2; simp
  ·rw [if_neg (fun h=>e2 h.symm),if_neg e2]
theorem uS {i j:Nat} (hi:i < L.length) (hj:j < L.length):(swp L i j).Perm L:=by
 unfold swp
 have e1:L.getD i default=L[i]:=by simp [List.getD,hi]
 have e2:L.getD j default=L[j]:=by simp [List.getD,hj]
 rw [e1,e2]
 exact List.set_set_perm hi hj
theorem PermR.refl:PermR a b L L:=⟨rfl,fun _ _=>rfl,List.Perm.refl _⟩
theorem PermR.trans (h:PermR a b L L') (k:PermR a b L' L''):PermR a b L L'':=⟨k.len.trans h.len,fun i hi=>(k.out i hi).trans (h.out i hi),k.perm.trans h.perm⟩
theorem PermR.mono (h:PermR a' b' L L') (h1:a ≤ a') (h2:b' ≤ b):PermR a b L L':=⟨h.len,fun i hi=>h.out i (by omega),h.perm⟩
theorem PermR.swap {i j:Nat} (h1:a ≤ i∧i < b) (h2:a ≤ j∧j < b) (hb:b ≤ L.length):PermR a b L (swp L i j) :=
 ⟨si i j,fun k hk=>by rw [cq (by omega) (by omega),if_neg (by omega),if_neg (by omega)],uS (by omega) (by omega)⟩
theorem pK {l m:List α} (hl:l.length=m.length) (h:∀ i,i < l.length→l.getD i default=m.getD i default):l=m :=
 List.ext_getElem hl (fun i h1 h2=>by
  have:=h i h1
  simpa [List.getD,h1,h2] using this)
theorem PermR.mid (h:PermR a b L L') (hab:a ≤ b) (hb:b ≤ L.length):((L'.drop a).take (b - a)).Perm ((L.drop a).take (b - a)):=by
 have e1:∀ M:List α,b ≤ M.length→M=M.take a ++ ((M.drop a).take (b - a) ++ M.drop b):=fun M hM=>by
  have:M.drop b=(M.drop a).drop (b - a):=by rw [List.drop_drop]; congr 1; omega
  rw [this,List.take_append_drop,List.take_append_drop]
 have t:L'.take a=L.take a:=pK (by simp [h.len]) (fun i hi=>by
  have hi':i < a:=by simp at hi; omega
  rw [nC hi',nC hi']; exact h.out i (.inl hi'))
 have d:L'.drop b=L.drop b:=pK (by simp [h.len]) (fun i hi=>by
  have e:∀ M:List α,(M.drop b).getD i default=M.getD (b + i) default:=fun M=>by simp [List.getD,List.getElem?_drop]
  rw [e,e]; exact h.out (b + i) (.inr (by omega)))
 have p:=h.perm
 rw [e1 L' (by rw [h.len]; exact hb),e1 L hb,t,d] at p
 exact (List.perm_append_right_iff _).1 ((List.perm_append_left_iff _).1 p)
theorem rT {M:List α} {x:α} (hab:a ≤ b) (hb:b ≤ M.length):x ∈ (M.drop a).take (b - a) ↔ ∃ i,a ≤ i∧i < b∧M.getD i default=x:=by
 constructor
 ·intro h
  obtain ⟨j,hj,e⟩:=List.getElem_of_mem h
  have hj':j < b - a:=by simp at hj; omega
  refine ⟨a + j,by omega,by omega,?_⟩
  rw [← e]
  simp [List.getD,List.getElem_take,List.getElem_drop,show a + j < M.length by omega]
 ·rintro ⟨i,h1,h2,rfl⟩
  rw [List.mem_iff_getElem?]
  refine ⟨i - a,?_⟩
  rw [List.getElem?_take,if_pos (by omega),List.getElem?_drop,show a + (i - a)=i by omega]
  simp [List.getD,show i < M.length by omega]
theorem PermR.all {p:α→Prop} (h:PermR a b L L') (hab:a ≤ b) (hb:b ≤ L.length) (hp:∀ i,a ≤ i→i < b→p (L.getD i default)):∀ i,a ≤ i→i < b→p (L'.getD i default):=by
 intro i h1 h2
 have hm:L'.getD i default ∈ (L'.drop a).take (b - a):=(rT hab (by rw [h.len]; exact hb)).2 ⟨i,h1,h2,rfl⟩
 obtain ⟨j,k1,k2,e⟩:=(rT hab hb).1 ((h.mid hab hb).mem_iff.1 hm)
 rw [← e]; exact hp j k1 k2
end
structure Ord {α:Type} (K:α→α→Int):Prop where
 irr:∀ x,¬ K x x < 0
 asym:∀ x y,K x y < 0→¬ K y x < 0
 negtr:∀ x y z,¬ K y x < 0→¬ K z y < 0→¬ K z x < 0
def aL {α:Type} [Inhabited α] (K:α→α→Int) (a b:Nat) (L:List α):Prop:=∀ i j,a ≤ i→i < j→j < b→¬ K (L.getD j default) (L.getD i default) < 0
theorem aL.one {α:Type} [Inhabited α] {K:α→α→Int} {a b:Nat} {L:List α} (h:b ≤ a + 1):aL K a b L:=fun i j h1 h2 h3=>by omega
end Go.Proofs.Ytpfkjcjgdilkkaa
namespace Go.Proofs.Ytpfkjcjgdilkkaa
open Go Go.Abs
structure LinK {α:Type} (K:α→α→Int):Prop where
 ord:Ord K
 eq:∀ x y,¬ K x y < 0→¬ K y x < 0→x=y
def bP {α:Type} (K:α→α→Int) (l:List α):Prop:=l.Pairwise fun x y=>K x y < 0
def oK {α:Type} (K:α→α→Int):List α→α→List α
 | [],v=>[v]
 | a :: l,v=>if K v a < 0 then v :: a :: l else a :: oK K l v
section
variable {α:Type} [DecidableEq α] {K:α→α→Int}
def mX (K:α→α→Int) (acc:List α) (v:α):List α:=if v ∈ acc then acc else oK K acc v
def m9 (K:α→α→Int) (acc l:List α):List α:=l.foldl (mX K) acc
def cC (K:α→α→Int) (l:List α):List α:=m9 K [] l
omit [DecidableEq α] in
theorem bP.nil:bP K ([]:List α):=List.Pairwise.nil
omit [DecidableEq α] in
theorem bP.nodup {l:List α} (hK:LinK K) (h:bP K l):l.Nodup:=List.Pairwise.imp (fun {a b} h e=>by subst e; exact hK.ord.irr a h) h
omit [DecidableEq α] in
theorem LinK.tri (hK:LinK K) (x y:α):K x y < 0 ∨ x=y ∨ K y x < 0:=by
 by_cases h1:K x y < 0
 ·exact .inl h1
 ·by_cases h2:K y x < 0
  ·exact .inr (.inr h2)
  ·exact .inr (.inl (hK.eq x y h1 h2))
omit [DecidableEq α] in
theorem LinK.trans (hK:LinK K) {x y z:α} (h1:K x y < 0) (h2:K y z < 0):K x z < 0:=by
 refine Decidable.byContradiction fun hn=>?_
 exact hK.ord.negtr z x y hn (hK.ord.asym _ _ h1) h2
omit [DecidableEq α] in
theorem eT {a b:List α} (hK:LinK K) (ha:bP K a) (hb:bP K b) (h:∀ x,x ∈ a ↔ x ∈ b):a=b:=by
 classical
 have hp:a.Perm b:=(List.perm_ext_iff_of_nodup (ha.nodup hK) (hb.nodup hK)).2 h
 exact List.Perm.eq_of_pairwise (fun x y _ _ h1 h2=>absurd h2 (hK.ord.asym _ _ h1)) ha hb hp
omit [DecidableEq α] in
theorem qF {l:List α} {v x:α}:x ∈ oK K l v ↔ x ∈ l ∨ x=v:=by
 induction l with
 | nil=>simp [oK]
 | cons a l ih =>
  unfold oK
  split
  ·simp only [List.mem_cons]
   exact ⟨fun h=>h.elim .inr .inl,fun h=>h.elim .inr .inl⟩
  ·rw [List.mem_cons,ih,List.mem_cons,or_assoc]
omit [DecidableEq α] in
theorem ug {l:List α} {v:α} (hK:LinK K) (h:bP K l) (hv:v ∉ l):bP K (oK K l v):=by
 induction l with
 | nil=>exact List.pairwise_singleton _ _
 | cons a l ih =>
  unfold bP at h
  rw [List.pairwise_cons] at h
  unfold oK
  split
  ·rename_i hlt
   exact List.pairwise_cons.2 ⟨fun y hy=>by
    rcases List.mem_cons.1 hy with rfl | hy
    ·exact hlt
    ·exact hK.trans hlt (h.1 y hy),List.pairwise_cons.2 h⟩
  ·rename_i hlt
   refine List.pairwise_cons.2 ⟨fun y hy=>?_,ih h.2 fun hm=>hv (List.mem_cons_of_mem _ hm)⟩
   rcases qF.1 hy with hy | rfl
   ·exact h.1 y hy
   ·rcases hK.tri y a with k | k | k
    ·exact absurd k hlt
    ·exact absurd (k ▸ List.mem_cons_self) hv
    ·exact k
omit [DecidableEq α] in
theorem uK {l:List α} {v:α}:(oK K l v).length=l.length + 1:=by
 induction l with
 | nil=>rfl
 | cons a l ih=>unfold oK; split <;> simp [ih]
theorem vo {acc:List α} {v x:α}:x ∈ mX K acc v ↔ x ∈ acc ∨ x=v:=by
 unfold mX
 split
 ·rename_i h
  exact ⟨.inl,fun h2=>h2.elim id (fun e=>e ▸ h)⟩
 ·exact qF
theorem vL {acc:List α} {v:α} (hK:LinK K) (h:bP K acc):bP K (mX K acc v):=by
 unfold mX
 split
 ·exact h
 ·rename_i hn
  exact ug hK h hn
theorem ud {acc:List α} {v:α}:(mX K acc v).length ≤ acc.length + 1:=by
 unfold mX
 split
 ·omega
 ·rw [uK]; exact Nat.le_refl _
theorem qk:∀ {l acc:List α} {x:α},x ∈ m9 K acc l ↔ x ∈ acc ∨ x ∈ l
 | [],acc,x=>by simp [m9]
 | v :: l,acc,x=>by
  rw [show m9 K acc (v :: l)=m9 K (mX K acc v) l from rfl,qk,vo,List.mem_cons,or_assoc]
theorem qt (hK:LinK K):∀ {l acc:List α},bP K acc→bP K (m9 K acc l)
 | [],_,h=>h
 | v :: l,acc,h=>qt hK (l:=l) (vL hK (v:=v) h)
theorem p8:∀ {l acc:List α},(m9 K acc l).length ≤ acc.length + l.length
 | [],acc=>by simp [m9]
 | v :: l,acc=>by
  rw [show m9 K acc (v :: l)=m9 K (mX K acc v) l from rfl]
  have:=p8 (l:=l) (acc:=mX K acc v)
  have:=ud (K:=K) (acc:=acc) (v:=v)
  rw [List.length_cons]; omega
theorem gr (hK:LinK K) (l:List α):bP K (cC K l):=qt hK List.Pairwise.nil
theorem ef {l:List α} {x:α}:x ∈ cC K l ↔ x ∈ l:=by
 unfold cC; rw [qk]; simp
theorem ja {l:List α}:(cC K l).length ≤ l.length:=by
 have:=p8 (K:=K) (l:=l) (acc:=[])
 unfold cC
 rw [List.length_nil] at this
 omega
end
section
variable {α:Type} [Inhabited α] [DecidableEq α]
def bn (l:List α):Nat→Nat
 | 0=>0
 | k + 1=>bn l k + if k=0 ∨ l.getD k default ≠ l.getD (k - 1) default then 1 else 0
theorem ql (l:List α) (k:Nat):bn l k ≤ k:=by
 induction k with
 | zero=>exact Nat.le_refl _
 | succ k ih=>unfold bn; split <;> omega
theorem de {l:List α} {k:Nat} (hk:k ≠ 0) (h:l.getD k default=l.getD (k - 1) default):bn l (k + 1)=bn l k:=by
 rw [bn,if_neg (by rintro (h' | h'); exact hk h'; exact h' h)]; rfl
theorem fX {l:List α} {k:Nat} (h:l.getD k default ≠ l.getD (k - 1) default):bn l (k + 1)=bn l k + 1:=by
 rw [bn,if_pos (.inr h)]
def cR (l:List α):Nat→List α
 | 0=>[]
 | k + 1=>cR l k ++ if k=0 ∨ l.getD k default ≠ l.getD (k - 1) default then [l.getD k default] else []
theorem nH (l:List α) (k:Nat):(cR l k).length=bn l k:=by
 induction k with
 | zero=>rfl
 | succ k ih=>rw [cR,bn,List.length_append,ih]; split <;> rfl
theorem f5 {l:List α} {k:Nat} (hk:k ≠ 0) (h:l.getD k default=l.getD (k - 1) default):cR l (k + 1)=cR l k:=by
 rw [cR,if_neg (by rintro (h' | h'); exact hk h'; exact h' h),List.append_nil]
theorem gd {l:List α} {k:Nat} (h:l.getD k default ≠ l.getD (k - 1) default):cR l (k + 1)=cR l k ++ [l.getD k default]:=by
 rw [cR,if_pos (.inr h)]
theorem j5 {l:List α}:∀ {k:Nat},k ≤ l.length→∀ x,x ∈ cR l k ↔ ∃ j,j < k∧l.getD j default=x
 | 0,_,x=>by simp [cR]
 | k + 1,hk,x=>by
  have ih:=j5 (l:=l) (k:=k) (by omega) x
  rw [cR,List.mem_append,ih]
  constructor
  ·rintro (⟨j,h1,h2⟩ | h)
   ·exact ⟨j,by omega,h2⟩
   ·split at h
    ·rw [List.mem_singleton] at h; exact ⟨k,by omega,h.symm⟩
    ·simp at h
  ·rintro ⟨j,h1,h2⟩
   by_cases e:j=k
   ·subst e
    by_cases c:j=0 ∨ l.getD j default ≠ l.getD (j - 1) default
    ·right; rw [if_pos c,List.mem_singleton]; exact h2.symm
    ·left
     have c1:j ≠ 0:=fun h=>c (.inl h)
     have c2:l.getD j default=l.getD (j - 1) default:=Decidable.of_not_not fun h=>c (.inr h)
     exact ⟨j - 1,by omega,by rw [← c2]; exact h2⟩
   ·left; exact ⟨j,by omega,h2⟩
theorem nI {K:α→α→Int} (hK:LinK K) {l:List α} (hs:∀ i j,i < j→j < l.length→¬ K (l.getD j default) (l.getD i default) < 0):∀ {k:Nat},k ≤ l.length→bP K (cR l k)
 | 0,_=>List.Pairwise.nil
 | k + 1,hk=>by
  have ih:=nI hK hs (k:=k) (by omega)
  unfold bP
  rw [cR,List.pairwise_append]
  refine ⟨ih,by split <;> simp,fun x hx y hy=>?_⟩
  split at hy
  ·rename_i c
   rw [List.mem_singleton] at hy
   subst hy
   obtain ⟨j,h1,rfl⟩:=(j5 (by omega) x).1 hx
   rcases c with c | c
   ·omega
   ·refine Decidable.byContradiction fun hn=>?_
    have a2:=hs (k - 1) k (by omega) (by omega)
    have hne:K (l.getD (k - 1) default) (l.getD k default) < 0:=Decidable.byContradiction fun h3=>c (hK.eq _ _ a2 h3)
    by_cases e:j=k - 1
    ·rw [e] at hn; exact hn hne
    ·have a1:=hs j (k - 1) (by omega) (by omega)
     exact hK.ord.negtr _ _ _ hn a1 hne
  ·simp at hy
omit [DecidableEq α] in
theorem vq {M:List α} {x:α}:(∃ j,j < M.length∧M.getD j default=x) ↔ x ∈ M:=by
 constructor
 ·rintro ⟨j,h1,rfl⟩; simp [List.getD,h1]
 ·intro h
  obtain ⟨j,hj,rfl⟩:=List.getElem_of_mem h
  exact ⟨j,hj,by simp [List.getD,hj]⟩
theorem nU {K:α→α→Int} (hK:LinK K) {l M:List α} (hp:M.Perm l) (hs:aL K 0 M.length M):cR M M.length=cC K l:=by
 refine eT hK (nI hK (fun i j h1 h2=>hs i j (Nat.zero_le _) h1 h2) (Nat.le_refl _)) (gr hK l) fun x=>?_
 rw [j5 (Nat.le_refl _),vq,hp.mem_iff,ef]
end
end Go.Proofs.Ytpfkjcjgdilkkaa
namespace Go.Proofs.Ytpfkjcjgdilkkaa
open Go Go.Abs
abbrev Shn {α:Type} (l:List α):Prop:=l.length ≤ 17592186044416
structure Vtx where
 color:Int
 label:Int
 deriving Inhabited,DecidableEq
abbrev Spx:=List Vtx
def ke (v:Vtx):List AV:=[.int .i64 v.color,.int .i64 v.label]
abbrev bC (v:Vtx):AV:=.agg [.int .i64 v.color,.int .i64 v.label]
def aq (l:Spx):AV:=e5 2 bC l
def av (l:List Spx):AV:=e5 1 aq l
def cX (l:Spx):List AV:=l.flatMap ke
theorem bD (v:Vtx):Dat (bC v):=Dat.agg (DatL.cons .int (DatL.cons .int DatL.nil))
theorem aB (l:Spx):Dat (aq l):=lr (fun x _ c hc=>by
 simp only [bC,AV.cells,List.mem_cons,List.not_mem_nil,or_false] at hc
 rcases hc with rfl | rfl <;> exact .int)
theorem bl (l:List Spx):Dat (av l):=lr (fun x _ c hc=>by
 simp only [aq,e5,AV.cells,List.mem_singleton] at hc; subst hc; exact aB x)
instance datI_encX {v:Vtx}:DatI (bC v):=⟨bD v⟩
instance datI_encXs {l:Spx}:DatI (aq l):=⟨aB l⟩
instance datI_encXss {l:List Spx}:DatI (av l):=⟨bl l⟩
theorem bk {l:Spx}:(aq l).cells=[aq l]:=rfl
theorem bx {l:Spx}:(aq l).one=true:=rfl
theorem au {l:List Spx}:(av l).cells=[av l]:=rfl
theorem aC {l:List Spx}:(av l).one=true:=rfl
theorem rB {l:Spx} {k:IntKind} {n:Int}:eh 2 (aq l) (.int k n)=if 0 ≤ n∧n < l.length then some (.iptr [.int .i64 (l.getD n.toNat default).color,.int .i64 (l.getD n.toNat default).label] 0) else none:=nr
theorem an {l:Spx}:cg (aq l)=some (.int .i64 l.length):=mh
theorem qN {l:List Spx} {k:IntKind} {n:Int}:eh 1 (av l) (.int k n)=if 0 ≤ n∧n < l.length then some (.iptr [aq (l.getD n.toNat default)] 0) else none:=nr
theorem ai {l:List Spx}:cg (av l)=some (.int .i64 l.length):=mh
theorem ix2 {l:Spx} {k:Nat} (h:k < l.length):eh 2 (aq l) (.int .i64 (k:Int))=some (.iptr [.int .i64 (l.getD k default).color,.int .i64 (l.getD k default).label] 0):=by
 rw [rB,if_pos ⟨by omega,by omega⟩,Int.toNat_natCast]
theorem dZ {l:List Spx} {k:Nat} (h:k < l.length):eh 1 (av l) (.int .i64 (k:Int))=some (.iptr [aq (l.getD k default)] 0):=by
 rw [qN,if_pos ⟨by omega,by omega⟩,Int.toNat_natCast]
theorem eW (l:Spx):(cX l).length=l.length * 2:=by
 induction l with
 | nil=>rfl
 | cons a l ih=>rw [cX,List.flatMap_cons,List.length_append,List.length_cons,show (l.flatMap ke).length=l.length * 2 from ih]; show 2 + _=_; omega
theorem jw (l m:Spx):cX (l ++ m)=cX l ++ cX m:=List.flatMap_append
theorem rI (l:Spx):(l.map bC).flatMap AV.cells=cX l:=by
 induction l with
 | nil=>rfl
 | cons a l ih=>rw [List.map_cons,List.flatMap_cons,ih]; rfl
theorem pd {H:Hp} {s:AV} {l:Spx} (h:Row H 2 s (cX l)):Snap H s (aq l):=by
 refine Row.snap (elems:=l.map bC) (by rw [rI]; exact h) (fun y hy=>?_) (by omega) (fun y hy c hx=>?_)
 ·obtain ⟨n,_,rfl⟩:=List.mem_map.1 hy; rfl
 ·obtain ⟨n,_,rfl⟩:=List.mem_map.1 hy
  simp only [bC,AV.cells,List.mem_cons,List.not_mem_nil,or_false] at hx
  rcases hx with rfl | rfl <;> exact .int
theorem fR {H:Hp} {s:AV} {l:List Spx} (h:Row H 1 s (l.map aq)):Snap H s (av l):=h.snapL' (fun _=>rfl) (fun x _=>aB x)
theorem uz {H:Hp} {l:Spx}:dg 2 H (aq l)=some (l.length,cX l):=by
 unfold aq e5; rw [rM,rI]; simp
theorem lz {H:Hp} {l:List Spx}:dg 1 H (av l)=some (l.length,l.map aq):=sK (fun _=>rfl)
theorem og (l:Spx):AV.ones (cX l)=true:=by
 unfold AV.ones
 rw [List.all_eq_true]
 intro x hx
 obtain ⟨v,_,hv⟩:=List.mem_flatMap.1 hx
 simp only [ke,List.mem_cons,List.not_mem_nil,or_false] at hv
 rcases hv with rfl | rfl <;> rfl
def be (v w:Vtx):Int:=if v.color < w.color then -1 else if v.color > w.color then 1 else if v.label < w.label then -1 else if v.label > w.label then 1 else 0
def bw:Spx→Spx→Int
 | [],[]=>0
 | [],_ :: _=>-1
 | _ :: _,[]=>1
 | a :: l,b :: m=>if be a b ≠ 0 then be a b else bw l m
theorem iW {v w:Vtx}:be v w < 0 ↔ v.color < w.color ∨ (v.color=w.color∧v.label < w.label):=by
 unfold be; (repeat' split) <;> constructor <;> intro h <;> omega
theorem n5 {v w:Vtx}:v=w ↔ v.color=w.color∧v.label=w.label:=by
 obtain ⟨a,b⟩:=v
 obtain ⟨c,d⟩:=w
 simp
theorem fI {v w:Vtx}:be v w=0 ↔ v=w:=by
 rw [n5]; unfold be; (repeat' split) <;> constructor <;> intro h <;> omega
theorem ns (v w:Vtx):be w v=- be v w:=by
 unfold be; (repeat' split) <;> omega
theorem kc:LinK be where
 ord:={ irr:=fun x=>by rw [iW]; omega,asym:=fun x y h=>by rw [iW] at *; omega,negtr:=fun x y z h1 h2=>by rw [iW] at *; omega }
 eq:=fun x y h1 h2=>by rw [iW] at *; rw [n5]; omega
theorem jH:∀ l:Spx,bw l l=0
 | []=>rfl
 | a :: l=>by rw [bw,fI.2 rfl,if_neg (by simp)]; exact jH l
theorem oZ:∀ {l m:Spx},bw l m=0→l=m
 | [],[],_=>rfl
 | [],_ :: _,h=>by simp [bw] at h
 | _ :: _,[],h=>by simp [bw] at h
 | a :: l,b :: m,h=>by
  rw [bw] at h
  by_cases e:be a b=0
  ·rw [if_neg (fun h=>h e)] at h
   rw [fI.1 e,oZ h]
  ·rw [if_pos e] at h; exact absurd h e
theorem tK {l m:Spx}:bw l m=0 ↔ l=m:=⟨oZ,fun h=>by rw [h]; exact jH _⟩
theorem jN:∀ l m:Spx,bw m l=- bw l m
 | [],[]=>rfl
 | [],_ :: _=>rfl
 | _ :: _,[]=>rfl
 | a :: l,b :: m=>by
  rw [bw,bw,ns a b]
  by_cases e:be a b=0
  ·rw [e,if_neg (by simp),if_neg (by simp)]; exact jN l m
  ·rw [if_pos (by omega),if_pos e]
theorem lv:∀ (x y z:Spx),¬ bw y x < 0→¬ bw z y < 0→¬ bw z x < 0
 | [],_,[],_,_=>by simp [bw]
 | [],_,_ :: _,_,_=>by simp [bw]
 | _ :: _,[],_,h,_=>by simp [bw] at h
 | _ :: _,_ :: _,[],_,h=>by simp [bw] at h
 | a :: x,b :: y,c :: z,h1,h2=>by
  rw [bw] at h1 h2 ⊢
  have n:=kc.ord.negtr a b c
  by_cases e1:be b a=0
  ·have e1':=fI.1 e1
   subst e1'
   rw [if_neg (fun h=>h e1)] at h1
   by_cases e2:be c b=0
   ·rw [if_neg (fun h=>h e2)] at h2 ⊢
    exact lv x y z h1 h2
   ·rw [if_pos e2] at h2 ⊢; exact h2
  ·rw [if_pos e1] at h1
   by_cases e2:be c b=0
   ·have e2':=fI.1 e2
    subst e2'
    rw [if_pos e1]; exact h1
   ·rw [if_pos e2] at h2
    have h3:=n h1 h2
    by_cases e3:be c a=0
    ·exfalso
     have e3':=fI.1 e3
     subst e3'
     have:=ns b c
     omega
    ·rw [if_pos e3]; exact h3
theorem nj:LinK bw where
 ord:={ irr:=fun x=>by rw [jH]; omega,asym:=fun x y h=>by rw [jN]; omega,negtr:=lv }
 eq:=fun x y h1 h2=>by
  have:=jN x y
  exact oZ (by omega)
theorem nL {l m:Spx} {k:Nat} (h1:k < l.length) (h2:k < m.length):bw (l.drop k) (m.drop k)=if be (l.getD k default) (m.getD k default) ≠ 0 then be (l.getD k default) (m.getD k default) else bw (l.drop (k + 1)) (m.drop (k + 1)):=by
 rw [eS h1,eS h2,bw]
theorem mz {l m:Spx} {k:Nat} (h:l.length ≤ k ∨ m.length ≤ k) (hk:k ≤ l.length∧k ≤ m.length):bw (l.drop k) (m.drop k)=if l.length < m.length then -1 else if m.length < l.length then 1 else 0:=by
 by_cases e1:l.length=k
 ·rw [List.drop_eq_nil_of_le (show l.length ≤ k by omega)]
  by_cases e2:m.length=k
  ·rw [List.drop_eq_nil_of_le (by omega),if_neg (by omega),if_neg (by omega)]; rfl
  ·rw [eS (l:=m) (k:=k) (by omega),if_pos (by omega)]; rfl
 ·have e2:m.length=k:=by omega
  rw [eS (l:=l) (k:=k) (by omega),List.drop_eq_nil_of_le (show m.length ≤ k by omega),if_neg (by omega),if_pos (by omega)]; rfl
def ca (f:Nat→Int):Nat→Int
 | 0=>0
 | n + 1=>if ca f n ≠ 0 then ca f n else f n
theorem cK {f:Nat→Int}:∀ {n:Nat},(∀ i,i < n→f i=0)→ca f n=0
 | 0,_=>rfl
 | n + 1,h=>by
  have:=cK (f:=f) (n:=n) (fun i hi=>h i (by omega))
  rw [ca,this,if_neg (by simp)]; exact h n (by omega)
theorem cL {f:Nat→Int}:∀ {n k:Nat},k < n→(∀ i,i < k→f i=0)→f k ≠ 0→ca f n=f k
 | 0,k,h,_,_=>absurd h (by omega)
 | n + 1,k,h,h0,hk=>by
  rw [ca]
  by_cases e:k=n
  ·subst e
   rw [cK h0,if_neg (by simp)]
  ·rw [cL (n:=n) (by omega) h0 hk,if_pos hk]
theorem fT {f:Nat→Int}:∀ {n:Nat},ca f n=0→∀ i,i < n→f i=0
 | 0,_,i,h=>absurd h (by omega)
 | n + 1,h,i,hi=>by
  rw [ca] at h
  by_cases e:ca f n=0
  ·rw [e,if_neg (by simp)] at h
   by_cases ei:i=n
   ·subst ei; exact h
   ·exact fT e i (by omega)
  ·rw [if_pos e] at h; exact absurd h e
def dS (v:Vtx):Bool:=decide (0 ≤ v.color) && decide (v.color < 8) && (decide (0 ≤ v.label) && decide (v.label ≤ 1048576))
def kE (l:Spx) (k:Nat):Int:=if dS (l.getD k default)=false then 2 else if 0 < k∧0 ≤ be (l.getD (k - 1) default) (l.getD k default) then 14 else 0
def bu (l:Spx):Int:=if l.length=0 then 16 else if 8 < l.length then 5 else ca (kE l) l.length
theorem bz {l:Spx} (h:bu l=0):1 ≤ l.length∧l.length ≤ 8∧bP be l∧∀ v ∈ l,dS v=true:=by
 unfold bu at h
 split at h
 ·exact absurd h (by decide)
 split at h
 ·exact absurd h (by decide)
 rename_i h1 h2
 have hz:=fT h
 have h3:∀ k,k < l.length→dS (l.getD k default)=true∧(0 < k→be (l.getD (k - 1) default) (l.getD k default) < 0):=fun k hk=>by
  have:=hz k hk
  unfold kE at this
  split at this
  ·exact absurd this (by decide)
  rename_i g1
  split at this
  ·exact absurd this (by decide)
  rename_i g2
  exact ⟨by simpa using g1,fun h0=>by omega⟩
 refine ⟨by omega,by omega,?_,fun v hv=>?_⟩
 ·have step:∀ j i,i < j→j < l.length→be (l.getD i default) (l.getD j default) < 0:=by
    intro j
    induction j with
    | zero=>intro i h; omega
    | succ j ih =>
     intro i hi hj
     have hs:=(h3 (j + 1) hj).2 (by omega)
     rw [Nat.add_sub_cancel] at hs
     by_cases e:i=j
     ·subst e; exact hs
     ·exact kc.trans (ih i (by omega) (by omega)) hs
  unfold bP
  rw [List.pairwise_iff_getElem]
  intro i j hi hj hij
  have:=step j i hij hj
  simpa [List.getD,hi,hj] using this
 ·obtain ⟨i,hi,rfl⟩:=List.getElem_of_mem hv
  have:=(h3 i hi).1
  simpa [List.getD,hi] using this
theorem dU {α:Type} [Inhabited α] {K:α→α→Int} {l:List α} (h:bP K l) {i j:Nat} (hij:i < j) (hj:j < l.length):K (l.getD i default) (l.getD j default) < 0:=by
 have:=List.pairwise_iff_getElem.1 h i j (by omega) hj hij
 simpa [List.getD,hj,show i < l.length by omega] using this
theorem pO {l:Spx} (h1:1 ≤ l.length∧l.length ≤ 8) (h2:bP be l) (h3:∀ v ∈ l,dS v=true):bu l=0:=by
 unfold bu
 rw [if_neg (by omega),if_neg (by omega)]
 refine cK fun k hk=>?_
 unfold kE
 rw [h3 _ (aA hk),if_neg (by simp),if_neg]
 rintro ⟨h0,h4⟩
 have:=dU h2 (i:=k - 1) (j:=k) (by omega) hk
 omega
end Go.Proofs.Ytpfkjcjgdilkkaa
namespace Go.Proofs.Ytpfkjcjgdilkkaa
open Go Go.Abs
open Nat (reduceEqDiff reduceAdd reduceLeDiff)
def c3i (a b:Int):Int:=if a < b then -1 else if a > b then 1 else 0
theorem wd (v w:Vtx):(if c3i v.color w.color ≠ 0 then c3i v.color w.color else c3i v.label w.label)=be v w:=by
 unfold c3i be
 by_cases h1:v.color < w.color
 ·rw [if_pos h1,if_pos h1,if_pos (by simp)]
 ·rw [if_neg h1,if_neg h1]
  by_cases h2:v.color > w.color
  ·rw [if_pos h2,if_pos h2,if_pos (by simp)]
  ·rw [if_neg h2,if_neg h2,if_neg (by simp)]
attribute [local irreducible] aE ah aX aP aH aJ az aK aQ bf Go.Abs.Fn aM Go.Abs.Pure ap aD Yl
theorem pP (n:Int):Pure Try.prog 91 [.int .i64 n] (.bool false):=by
 refine Pure.of_c2 follows y9 (Nat.le_of_ble_eq_true rfl) ?_
 simp only [b91,cO,cG,cN,cM,cD,cF,cB,ay,aO]
 (have zz:=and_self; repeat' (first|refine zW ?_|apply a_n|refine zO ?_|refine vZ ?_|refine af rfl ?_|refine r1Z ?_|fail)) <;> (try clear zz)
 exact bF (decide_eq_false (fun h=>h rfl))
theorem uu (a b:Int):Pure Try.prog 71 [.int .i64 a,.int .i64 b] (.int .i64 (c3i a b)):=by
 refine Pure.of_c2 follows ym (Nat.le_of_ble_eq_true rfl) ?_
 simp only [b71,cO,cG,cN,cM,cD,cF,cB,ay,aO]
 have h1:=pP a
 have h2:=pP b
 unfold c3i
 (have zz:=and_self; repeat' (first|refine zW ?_|apply a_n|apply a_r|refine zO ?_|refine vZ ?_|refine cZ ?_ (hp:=by first | exact h1 | exact h2)|refine cFZ ?_|(refine zGZ ?_ ?_ <;> (intro _hg; try (exfalso; omega)))|refine af rfl ?_|refine r1Z ?_|fail)) <;> (try clear zz)
 all_goals (refine cz ?_)
 ·rw [if_pos (by omega)]
 ·rw [if_neg (by omega),if_pos (by omega)]
 ·rw [if_neg (by omega),if_neg (by omega)]
theorem yX (a b:Int):Pure Try.prog 70 [dt [a,b]] (.int .i64 (if a ≠ 0 then a else b)):=by
 refine Pure.of_c2 follows zE (Nat.le_of_ble_eq_true rfl) ?_
 simp only [b70,cO,cG,cN,cM,cD,cF,cB,ay,aO]
 (have zz:=and_self; repeat' (first|refine zW ?_|apply a_n|refine zO ?_|refine vZ ?_|fail)) <;> (try clear zz)
 refine qD (fun k=>[(3,.int .i64 0),(6,dt [a,b]),(7,.int .i64 2),(8,.int .i64 k)]) 2 (fun k=>[a,b].getD k default=0) (by (iterate 4 refine And.intro rfl ?_); trivial) ?_
 intro k hk hz
 rcases (by omega:k=0 ∨ k=1 ∨ k=2) with rfl | rfl | rfl
 ·have e:[a,b].getD 0 default=a:=rfl
  have ix:eh 1 (dt [a,b]) (.int .i64 ((0:Nat):Int))=some (.iptr [.int .i64 a] 0):=rfl
  by_cases h0:a=0
  ·have z:decide (a ≠ 0)=false:=decide_eq_false (fun h=>h h0)
   (have zz:=aI @ix @z; repeat' (first|refine zW ?_|apply a_n|refine zO ?_|refine vZ ?_|refine cFZ ?_|(refine zGZ ?_ ?_ <;> (intro _hg; try (exfalso; omega)))|fail)) <;> (try clear zz)
   exact ⟨by omega,h0,by (iterate 4 refine And.intro rfl ?_); trivial,rfl,rfl⟩
  ·have z:decide (a ≠ 0)=true:=decide_eq_true h0
   (have zz:=aI @ix @z; repeat' (first|refine zW ?_|apply a_n|apply a_r|refine zO ?_|refine vZ ?_|refine cTZ ?_|(refine zGZ ?_ ?_ <;> (intro _hg; try (exfalso; omega)))|refine af rfl ?_|refine r1Z ?_|fail)) <;> (try clear zz)
   rw [if_pos h0]; exact .int _ _
 ·have h0:a=0:=hz 0 (by omega)
  have ix:eh 1 (dt [a,b]) (.int .i64 ((1:Nat):Int))=some (.iptr [.int .i64 b] 0):=rfl
  rw [if_neg (fun h=>h h0)]
  by_cases h1:b=0
  ·have z:decide (b ≠ 0)=false:=decide_eq_false (fun h=>h h1)
   (have zz:=aI @ix @z; repeat' (first|refine zW ?_|apply a_n|refine zO ?_|refine vZ ?_|refine cFZ ?_|(refine zGZ ?_ ?_ <;> (intro _hg; try (exfalso; omega)))|fail)) <;> (try clear zz)
   exact ⟨by omega,h1,by (iterate 4 refine And.intro rfl ?_); trivial,rfl,rfl⟩
  ·have z:decide (b ≠ 0)=true:=decide_eq_true h1
   (have zz:=aI @ix @z; repeat' (first|refine zW ?_|apply a_n|apply a_r|refine zO ?_|refine vZ ?_|refine cTZ ?_|(refine zGZ ?_ ?_ <;> (intro _hg; try (exfalso; omega)))|refine af rfl ?_|refine r1Z ?_|fail)) <;> (try clear zz)
   exact .int _ _
 ·have h0:a=0:=hz 0 (by omega)
  have h1:b=0:=hz 1 (by omega)
  rw [if_neg (fun h=>h h0),h1]
  (have zz:=and_self; repeat' (first|refine zW ?_|apply a_n|apply a_x|refine zO ?_|refine vZ ?_|(refine zGZ ?_ ?_ <;> (intro _hg; try (exfalso; omega)))|refine af rfl ?_|refine r1Z ?_|fail)) <;> (try clear zz)
  exact .int _ _
theorem rS (v w:Vtx):Pure Try.prog 60 [bC v,bC w] (.int .i64 (be v w)):=by
 refine Pure.of_c2 follows yP (Nat.le_of_ble_eq_true rfl) ?_
 simp only [b60,cO,cG,cN,cM,cD,cF,cB,ay,aO]
 have h1:=uu v.color w.color
 have h2:=uu v.label w.label
 have h3:=yX (c3i v.color w.color) (c3i v.label w.label)
 rw [wd] at h3
 (have zz:=and_self; repeat' (first|refine zW ?_|refine zM ?_|apply a_n|refine zO ?_|refine vZ ?_|refine cZ ?_ (hp:=by first | exact h1 | exact h2)|refine bxZ ?_|refine blZ ?_|fail)) <;> (try clear zz)
 refine dp ev0 (by ((try simp only [cH,ZA,reduceEqDiff,↓reduceIte,reduceAdd,reduceLeDiff]); (try with_reducible rfl)); rfl) h3 (aa (ax (vS aj rfl rfl) ab) rfl) ?_
 (have zz:=and_self; repeat' (first|apply a_n|refine zO ?_|refine vZ ?_|refine af rfl ?_|refine r1Z ?_|fail)) <;> (try clear zz)
 exact .int _ _
theorem mN (v w:Vtx):Pure Try.prog 57 [bC v,bC w] (.int .i64 (be v w)):=by
 refine Pure.of_c2 follows Ai (Nat.le_of_ble_eq_true rfl) ?_
 simp only [b57,cO,cG,cN,cM,cD,cF,cB,ay,aO]
 unfold be
 (have zz:=and_self; repeat' (first|refine zW ?_|apply a_n|apply a_r|refine zO ?_|refine vZ ?_|refine bxZ ?_|(refine zGZ ?_ ?_ <;> (intro _hg; try (exfalso; omega)))|refine af rfl ?_|refine r1Z ?_|fail)) <;> (try clear zz)
 all_goals (refine cz ?_; (repeat' split) <;> omega)
theorem rk (v:Vtx):Pure Try.prog 59 [bC v] (.bool (dS v)):=by
 refine Pure.of_c2 follows zw (Nat.le_of_ble_eq_true rfl) ?_
 simp only [b59,cO,cG,cN,cM,cD,cF,cB,ay,aO]
 unfold dS
 (have zz:=and_self; repeat' (first|refine zW ?_|apply a_n|refine zO ?_|refine vZ ?_|refine bxZ ?_|refine gTZ ?_|refine gFZ ?_|(refine zGZ ?_ ?_ <;> (intro _hg; try (exfalso; omega)))|refine af rfl ?_|refine r1Z ?_|fail)) <;> (try clear zz)
 all_goals (refine bF ?_; rw [Bool.eq_iff_iff]; simp only [Bool.and_eq_true,decide_eq_true_iff,Bool.false_eq_true,false_iff]; omega)
theorem tV (v:Vtx):Pure Try.prog 56 [bC v] (.bool (dS v)):=by
 refine Pure.of_c2 follows Aj (Nat.le_of_ble_eq_true rfl) ?_
 simp only [b56,cO,cG,cN,cM,cD,cF,cB,ay,aO]
 unfold dS
 (have zz:=and_self; repeat' (first|refine zW ?_|apply a_n|refine zO ?_|refine vZ ?_|refine bxZ ?_|refine gTZ ?_|refine gFZ ?_|(refine zGZ ?_ ?_ <;> (intro _hg; try (exfalso; omega)))|refine af rfl ?_|refine r1Z ?_|fail)) <;> (try clear zz)
 all_goals (refine bF ?_; rw [Bool.eq_iff_iff]; simp only [Bool.and_eq_true,decide_eq_true_iff,Bool.false_eq_true,false_iff]; omega)
end Go.Proofs.Ytpfkjcjgdilkkaa
namespace Go.Proofs.Ytpfkjcjgdilkkaa
open Go Go.Abs
attribute [local irreducible] aE ah aX aP aH aJ az aK aQ bf Go.Abs.Fn aM Go.Abs.Pure ap aD Yl
theorem qv (l m:Spx) (hl:Shn l) (hm:Shn m):Pure Try.prog 63 [aq l,aq m,.func 60 []] (.int .i64 (bw l m)):=by
 refine Pure.of_c2 follows yH (Nat.le_of_ble_eq_true rfl) ?_
 simp only [b63,cO,cG,cN,cM,cD,cF,cB,ay,aO]
 have hl':l.length ≤ 17592186044416:=hl
 have hm':m.length ≤ 17592186044416:=hm
 (have zz:=@an; repeat' (first|refine zW ?_|apply a_n|refine zO ?_|refine vZ ?_|fail)) <;> (try clear zz)
 refine aR (X:=Nat) (fun k=>[(0,aq l),(1,aq m),(2,.func 60 []),(11,aq l),(12,.int .i64 l.length),(13,.int .i64 k)]) (fun k H nx=>k ≤ l.length∧k ≤ m.length∧bw l m=bw (l.drop k) (m.drop k)) (fun k=>l.length - k) 0 ⟨Nat.zero_le _,Nat.zero_le _,rfl⟩ ag0 ?_
 rintro k H nx ⟨h1,h2,h3⟩
 by_cases hk:k < l.length
 rotate_left
 ·rw [h3,mz (by omega) ⟨h1,h2⟩]
  (have zz:=@an; repeat' (first|refine zW ?_|apply a_n|apply a_x|apply a_r|refine zO ?_|refine vY ?_|(refine zGY ?_ ?_ <;> (intro _hg; try (exfalso; omega)))|refine af rfl ?_|refine r1Y ?_|fail)) <;> (try clear zz)
  all_goals (refine cz ?_)
  ·rw [if_pos (by omega)]
  ·rw [if_neg (by omega),if_neg (by omega)]
 have ix:=ix2 hk
 by_cases hk2:k < m.length
 rotate_left
 ·rw [h3,mz (by omega) ⟨h1,h2⟩,if_neg (by omega),if_pos (by omega)]
  (have zz:=aI @an @ix; repeat' (first|refine zW ?_|apply a_n|apply a_r|refine zO ?_|refine vY ?_|refine alY ?_|refine stY ?_|(refine zGY ?_ ?_ <;> (intro _hg; try (exfalso; omega)))|refine af rfl ?_|refine r1Y ?_|fail)) <;> (try clear zz)
  all_goals exact cz rfl
 have iy:=ix2 hk2
 have hc:=rS (l.getD k default) (m.getD k default)
 have hd:=nL hk hk2
 by_cases he:be (l.getD k default) (m.getD k default)=0
 ·rw [if_neg (fun h=>h he)] at hd
  rw [he] at hc
  have z:decide ((0:Int) ≠ 0)=false:=rfl
  (have zz:=aI @an (aI @ix (aI @iy @z)); repeat' (first|refine zW ?_|apply a_n|refine zO ?_|refine vY ?_|refine cY ?_ (hp:=hc) (hs:=by (first | refine aa ?_ rfl | apply ac); (repeat' (first | exact ab | apply ak | apply ae | exact bD _)); first | done | fail)|refine alY ?_|refine stY ?_|refine cFY ?_|(refine zGY ?_ ?_ <;> (intro _hg; try (exfalso; omega)))|fail)) <;> (try clear zz)
  exact ⟨k + 1,by omega,⟨by omega,by omega,h3.trans hd⟩,ag0⟩
 ·rw [if_pos he] at hd
  have z:decide (be (l.getD k default) (m.getD k default) ≠ 0)=true:=decide_eq_true he
  rw [h3,hd]
  (have zz:=aI @an (aI @ix (aI @iy @z)); repeat' (first|refine zW ?_|apply a_n|apply a_r|refine zO ?_|refine vY ?_|refine cY ?_ (hp:=hc) (hs:=by (first | refine aa ?_ rfl | apply ac); (repeat' (first | exact ab | apply ak | apply ae | exact bD _)); first | done | fail)|refine alY ?_|refine stY ?_|refine cTY ?_|(refine zGY ?_ ?_ <;> (intro _hg; try (exfalso; omega)))|refine af rfl ?_|refine r1Y ?_|fail)) <;> (try clear zz)
  exact .int _ _
theorem gZ (l m:Spx) (hl:Shn l) (hm:Shn m):Pure Try.prog 42 [aq l,aq m] (.int .i64 (bw l m)):=by
 refine Pure.of_c2 follows zr (Nat.le_of_ble_eq_true rfl) ?_
 simp only [b42,cO,cG,cN,cM,cD,cF,cB,ay,aO]
 have h:=qv l m hl hm
 (have zz:=and_self; repeat' (first|refine zW ?_|apply a_n|refine zO ?_|refine vZ ?_|refine cZ ?_ (hp:=h) (hs:=by (first | refine aa ?_ rfl | apply ac); (repeat' (first | exact ab | apply ak | apply ae | exact aB _ | exact Dat.func (by simp))); first | done | fail)|refine af rfl ?_|refine r1Z ?_|fail)) <;> (try clear zz)
 exact .int _ _
theorem iO (l m:Spx) (hl:Shn l) (hm:Shn m):Pure Try.prog 35 [aq l,aq m] (.int .i64 (bw l m)):=by
 refine Pure.of_c2 follows z6 (Nat.le_of_ble_eq_true rfl) ?_
 simp only [b35,cO,cG,cN,cM,cD,cF,cB,ay,aO]
 have hl':l.length ≤ 17592186044416:=hl
 have hm':m.length ≤ 17592186044416:=hm
 (have zz:=and_self; repeat' (first|refine zW ?_|apply a_n|refine zO ?_|refine vZ ?_|fail)) <;> (try clear zz)
 refine aR (X:=Nat) (fun k=>[(0,aq l),(1,aq m),(5,.int .i64 k)]) (fun k H nx=>k ≤ l.length∧k ≤ m.length∧bw l m=bw (l.drop k) (m.drop k)) (fun k=>l.length - k) 0 ⟨Nat.zero_le _,Nat.zero_le _,rfl⟩ ag0 ?_
 rintro k H nx ⟨h1,h2,h3⟩
 by_cases hk:k < l.length∧k < m.length
 rotate_left
 ·rw [h3,mz (by omega) ⟨h1,h2⟩]
  (have zz:=@an; repeat' (first|refine zW ?_|apply a_n|apply a_x|apply a_r|refine zO ?_|refine vY ?_|refine gTY ?_|refine gFY ?_|refine cFY ?_|(refine zGY ?_ ?_ <;> (intro _hg; try (exfalso; omega)))|refine af rfl ?_|refine r1Y ?_|fail)) <;> (try clear zz)
  all_goals (refine cz ?_; (repeat' split) <;> omega)
 have ix:=ix2 hk.1
 have iy:=ix2 hk.2
 have hc:=mN (l.getD k default) (m.getD k default)
 have hd:=nL hk.1 hk.2
 by_cases he:be (l.getD k default) (m.getD k default)=0
 ·rw [if_neg (fun h=>h he)] at hd
  rw [he] at hc
  have z:decide ((0:Int) ≠ 0)=false:=rfl
  (have zz:=aI @an (aI @ix (aI @iy @z)); repeat' (first|refine zW ?_|refine zM ?_|apply a_n|refine zO ?_|refine vY ?_|refine cY ?_ (hp:=hc) (hs:=by (first | refine aa ?_ rfl | apply ac); (repeat' (first | exact ab | apply ak | apply ae | exact bD _)); first | done | fail)|refine gTY ?_|refine cFY ?_|(refine zGY ?_ ?_ <;> (intro _hg; try (exfalso; omega)))|fail)) <;> (try clear zz)
  exact ⟨k + 1,by omega,⟨by omega,by omega,h3.trans hd⟩,ag0⟩
 ·rw [if_pos he] at hd
  have z:decide (be (l.getD k default) (m.getD k default) ≠ 0)=true:=decide_eq_true he
  rw [h3,hd]
  (have zz:=aI @an (aI @ix (aI @iy @z)); repeat' (first|refine zW ?_|refine zM ?_|apply a_n|apply a_r|refine zO ?_|refine vY ?_|refine cY ?_ (hp:=hc) (hs:=by (first | refine aa ?_ rfl | apply ac); (repeat' (first | exact ab | apply ak | apply ae | exact bD _)); first | done | fail)|refine gTY ?_|refine cTY ?_|(refine zGY ?_ ?_ <;> (intro _hg; try (exfalso; omega)))|refine af rfl ?_|refine r1Y ?_|fail)) <;> (try clear zz)
  exact .int _ _
theorem v9 (l m:Spx) (hl:Shn l) (hm:Shn m):Pure Try.prog 52 [aq l,aq m] (.bool (decide (l=m))):=by
 refine Pure.of_c2 follows Ap (Nat.le_of_ble_eq_true rfl) ?_
 simp only [b52,cO,cG,cN,cM,cD,cF,cB,ay,aO]
 have h:=iO l m hl hm
 (have zz:=and_self; repeat' (first|refine zW ?_|apply a_n|refine zO ?_|refine vZ ?_|refine cZ ?_ (hp:=h) (hs:=by (first | refine aa ?_ rfl | apply ac); (repeat' (first | exact ab | apply ak | apply ae | exact aB _)); first | done | fail)|refine af rfl ?_|refine r1Z ?_|fail)) <;> (try clear zz)
 exact bF (decide_eq_decide.2 tK)
theorem kL {l:Spx} {k:Nat}:kE l k=if dS (l.getD k default)=false then 2 else if 0 < k∧0 ≤ be (l.getD (k - 1) default) (l.getD k default) then 14 else 0:=rfl
theorem mM (l:Spx) (hl:Shn l):Pure Try.prog 37 [aq l] (.int .i64 (bu l)):=by
 refine Pure.of_c2 follows yD (Nat.le_of_ble_eq_true rfl) ?_
 simp only [b37,cO,cG,cN,cM,cD,cF,cB,ay,aO]
 have hl':l.length ≤ 17592186044416:=hl
 by_cases h0:l.length=0
 ·rw [show bu l=16 by unfold bu; rw [if_pos h0]]
  (have zz:=@an; repeat' (first|refine zW ?_|apply a_n|apply a_r|refine zO ?_|refine vZ ?_|(refine zGZ ?_ ?_ <;> (intro _hg; try (exfalso; omega)))|refine af rfl ?_|refine r1Z ?_|fail)) <;> (try clear zz)
  all_goals exact cz rfl
 by_cases h8:8 < l.length
 ·rw [show bu l=5 by unfold bu; rw [if_neg h0,if_pos h8]]
  (have zz:=@an; repeat' (first|refine zW ?_|apply a_n|apply a_r|refine zO ?_|refine vZ ?_|(refine zGZ ?_ ?_ <;> (intro _hg; try (exfalso; omega)))|refine af rfl ?_|refine r1Z ?_|fail)) <;> (try clear zz)
  all_goals exact cz rfl
 rw [show bu l=ca (kE l) l.length by unfold bu; rw [if_neg h0,if_neg h8]]
 (have zz:=@an; repeat' (first|refine zW ?_|apply a_n|refine zO ?_|refine vZ ?_|(refine zGZ ?_ ?_ <;> (intro _hg; try (exfalso; omega)))|fail)) <;> (try clear zz)
 refine aR (X:=Nat) (fun k=>[(0,aq l),(13,aq l),(14,.int .i64 l.length),(15,.int .i64 k)]) (fun k H nx=>k ≤ l.length∧∀ i,i < k→kE l i=0) (fun k=>l.length - k) 0 ⟨Nat.zero_le _,fun i h=>absurd h (by omega)⟩ ag0 ?_
 rintro k H nx ⟨h1,h2⟩
 by_cases hk:k < l.length
 rotate_left
 ·rw [cK fun i hi=>h2 i (by omega)]
  (have zz:=@an; repeat' (first|refine zW ?_|apply a_n|apply a_x|refine zO ?_|refine vY ?_|(refine zGY ?_ ?_ <;> (intro _hg; try (exfalso; omega)))|refine af rfl ?_|refine r1Y ?_|fail)) <;> (try clear zz)
  exact .int _ _
 have ix:=ix2 hk
 have hp:=rk (l.getD k default)
 have hs:=kL (l:=l) (k:=k)
 cases hr:dS (l.getD k default)
 ·rw [hr] at hp
  rw [hr,if_pos rfl] at hs
  rw [cL hk h2 (by rw [hs]; decide),hs]
  (have zz:=aI @an @ix; repeat' (first|refine zW ?_|apply a_n|apply a_r|refine zO ?_|refine vY ?_|refine cY ?_ (hp:=hp) (hs:=by (first | refine aa ?_ rfl | apply ac); (repeat' (first | exact ab | apply ak | apply ae | exact bD _)); first | done | fail)|refine alY ?_|refine stY ?_|refine cTY ?_|(refine zGY ?_ ?_ <;> (intro _hg; try (exfalso; omega)))|refine af rfl ?_|refine r1Y ?_|fail)) <;> (try clear zz)
  exact .int _ _
 rw [hr] at hp
 rw [hr,if_neg (by decide)] at hs
 by_cases hk0:0 < k
 rotate_left
 ·rw [if_neg (fun h=>hk0 h.1)] at hs
  have zk:decide (0 < (k:Int))=false:=decide_eq_false (by omega)
  (have zz:=aI @an (aI @ix @zk); repeat' (first|refine zW ?_|refine zM ?_|apply a_n|refine zO ?_|refine vY ?_|refine cY ?_ (hp:=hp) (hs:=by (first | refine aa ?_ rfl | apply ac); (repeat' (first | exact ab | apply ak | apply ae | exact bD _)); first | done | fail)|refine alY ?_|refine stY ?_|refine gFY ?_|refine cFY ?_|(refine zGY ?_ ?_ <;> (intro _hg; try (exfalso; omega)))|fail)) <;> (try clear zz)
  exact ⟨k + 1,by omega,⟨by omega,fun i hi=>by
   rcases Nat.lt_succ_iff_lt_or_eq.1 hi with h | rfl
   ·exact h2 i h
   ·exact hs⟩,ag0⟩
 have zk:decide (0 < (k:Int))=true:=decide_eq_true (by omega)
 have iy:eh 2 (aq l) (.int .i64 ((k:Int) - 1))=some (.iptr [.int .i64 (l.getD (k - 1) default).color,.int .i64 (l.getD (k - 1) default).label] 0):=by
  have:=ix2 (l:=l) (k:=k - 1) (by omega)
  rwa [show ((k - 1:Nat):Int)=(k:Int) - 1 by omega] at this
 have hc:=rS (l.getD (k - 1) default) (l.getD k default)
 by_cases hv:0 ≤ be (l.getD (k - 1) default) (l.getD k default)
 ·have z:decide (0 ≤ be (l.getD (k - 1) default) (l.getD k default))=true:=decide_eq_true hv
  rw [if_pos ⟨hk0,hv⟩] at hs
  rw [cL hk h2 (by rw [hs]; decide),hs]
  (have zz:=aI @an (aI @ix (aI @iy (aI @zk @z))); repeat' (first|refine zW ?_|refine zM ?_|apply a_n|apply a_r|refine zO ?_|refine vY ?_|refine cY ?_ (hp:=by first | exact hp | exact hc) (hs:=by (first | refine aa ?_ rfl | apply ac); (repeat' (first | exact ab | apply ak | apply ae | exact bD _)); first | done | fail)|refine alY ?_|refine stY ?_|refine gTY ?_|refine cTY ?_|refine cFY ?_|(refine zGY ?_ ?_ <;> (intro _hg; try (exfalso; omega)))|refine af rfl ?_|refine r1Y ?_|fail)) <;> (try clear zz)
  exact .int _ _
 ·have z:decide (0 ≤ be (l.getD (k - 1) default) (l.getD k default))=false:=decide_eq_false hv
  rw [if_neg (fun h=>hv h.2)] at hs
  (have zz:=aI @an (aI @ix (aI @iy (aI @zk @z))); repeat' (first|refine zW ?_|refine zM ?_|apply a_n|refine zO ?_|refine vY ?_|refine cY ?_ (hp:=by first | exact hp | exact hc) (hs:=by (first | refine aa ?_ rfl | apply ac); (repeat' (first | exact ab | apply ak | apply ae | exact bD _)); first | done | fail)|refine alY ?_|refine stY ?_|refine gTY ?_|refine cFY ?_|(refine zGY ?_ ?_ <;> (intro _hg; try (exfalso; omega)))|fail)) <;> (try clear zz)
  exact ⟨k + 1,by omega,⟨by omega,fun i hi=>by
   rcases Nat.lt_succ_iff_lt_or_eq.1 hi with h | rfl
   ·exact h2 i h
   ·exact hs⟩,ag0⟩
theorem rQ (l:Spx) (hl:Shn l):Pure Try.prog 34 [aq l] (.int .i64 (bu l)):=by
 refine Pure.of_c2 follows zV (Nat.le_of_ble_eq_true rfl) ?_
 simp only [b34,cO,cG,cN,cM,cD,cF,cB,ay,aO]
 have hl':l.length ≤ 17592186044416:=hl
 by_cases h0:l.length=0
 ·rw [show bu l=16 by unfold bu; rw [if_pos h0]]
  (have zz:=@an; repeat' (first|refine zW ?_|apply a_n|apply a_r|refine zO ?_|refine vZ ?_|(refine zGZ ?_ ?_ <;> (intro _hg; try (exfalso; omega)))|refine af rfl ?_|refine r1Z ?_|fail)) <;> (try clear zz)
  all_goals exact cz rfl
 by_cases h8:8 < l.length
 ·rw [show bu l=5 by unfold bu; rw [if_neg h0,if_pos h8]]
  (have zz:=@an; repeat' (first|refine zW ?_|apply a_n|apply a_r|refine zO ?_|refine vZ ?_|(refine zGZ ?_ ?_ <;> (intro _hg; try (exfalso; omega)))|refine af rfl ?_|refine r1Z ?_|fail)) <;> (try clear zz)
  all_goals exact cz rfl
 rw [show bu l=ca (kE l) l.length by unfold bu; rw [if_neg h0,if_neg h8]]
 (have zz:=@an; repeat' (first|refine zW ?_|apply a_n|refine zO ?_|refine vZ ?_|(refine zGZ ?_ ?_ <;> (intro _hg; try (exfalso; omega)))|fail)) <;> (try clear zz)
 refine aR (X:=Nat) (fun k=>[(0,aq l),(3,.int .i64 k)]) (fun k H nx=>k ≤ l.length∧∀ i,i < k→kE l i=0) (fun k=>l.length - k) 0 ⟨Nat.zero_le _,fun i h=>absurd h (by omega)⟩ ag0 ?_
 rintro k H nx ⟨h1,h2⟩
 by_cases hk:k < l.length
 rotate_left
 ·rw [cK fun i hi=>h2 i (by omega)]
  (have zz:=@an; repeat' (first|refine zW ?_|apply a_n|apply a_x|refine zO ?_|refine vY ?_|(refine zGY ?_ ?_ <;> (intro _hg; try (exfalso; omega)))|refine af rfl ?_|refine r1Y ?_|fail)) <;> (try clear zz)
  exact .int _ _
 have ix:=ix2 hk
 have hp:=tV (l.getD k default)
 have hs:=kL (l:=l) (k:=k)
 cases hr:dS (l.getD k default)
 ·rw [hr] at hp
  rw [hr,if_pos rfl] at hs
  rw [cL hk h2 (by rw [hs]; decide),hs]
  (have zz:=aI @an @ix; repeat' (first|refine zW ?_|apply a_n|apply a_r|refine zO ?_|refine vY ?_|refine cY ?_ (hp:=hp) (hs:=by (first | refine aa ?_ rfl | apply ac); (repeat' (first | exact ab | apply ak | apply ae | exact bD _)); first | done | fail)|refine cTY ?_|(refine zGY ?_ ?_ <;> (intro _hg; try (exfalso; omega)))|refine af rfl ?_|refine r1Y ?_|fail)) <;> (try clear zz)
  exact .int _ _
 rw [hr] at hp
 rw [hr,if_neg (by decide)] at hs
 by_cases hk0:0 < k
 rotate_left
 ·rw [if_neg (fun h=>hk0 h.1)] at hs
  have zk:decide (0 < (k:Int))=false:=decide_eq_false (by omega)
  (have zz:=aI @an (aI @ix @zk); repeat' (first|refine zW ?_|refine zM ?_|apply a_n|refine zO ?_|refine vY ?_|refine cY ?_ (hp:=hp) (hs:=by (first | refine aa ?_ rfl | apply ac); (repeat' (first | exact ab | apply ak | apply ae | exact bD _)); first | done | fail)|refine gFY ?_|refine cFY ?_|(refine zGY ?_ ?_ <;> (intro _hg; try (exfalso; omega)))|fail)) <;> (try clear zz)
  exact ⟨k + 1,by omega,⟨by omega,fun i hi=>by
   rcases Nat.lt_succ_iff_lt_or_eq.1 hi with h | rfl
   ·exact h2 i h
   ·exact hs⟩,ag0⟩
 have zk:decide (0 < (k:Int))=true:=decide_eq_true (by omega)
 have iy:eh 2 (aq l) (.int .i64 ((k:Int) - 1))=some (.iptr [.int .i64 (l.getD (k - 1) default).color,.int .i64 (l.getD (k - 1) default).label] 0):=by
  have:=ix2 (l:=l) (k:=k - 1) (by omega)
  rwa [show ((k - 1:Nat):Int)=(k:Int) - 1 by omega] at this
 have hc:=mN (l.getD (k - 1) default) (l.getD k default)
 by_cases hv:0 ≤ be (l.getD (k - 1) default) (l.getD k default)
 ·have z:decide (0 ≤ be (l.getD (k - 1) default) (l.getD k default))=true:=decide_eq_true hv
  rw [if_pos ⟨hk0,hv⟩] at hs
  rw [cL hk h2 (by rw [hs]; decide),hs]
  (have zz:=aI @an (aI @ix (aI @iy (aI @zk @z))); repeat' (first|refine zW ?_|refine zM ?_|apply a_n|apply a_r|refine zO ?_|refine vY ?_|refine cY ?_ (hp:=by first | exact hp | exact hc) (hs:=by (first | refine aa ?_ rfl | apply ac); (repeat' (first | exact ab | apply ak | apply ae | exact bD _)); first | done | fail)|refine gTY ?_|refine cTY ?_|refine cFY ?_|(refine zGY ?_ ?_ <;> (intro _hg; try (exfalso; omega)))|refine af rfl ?_|refine r1Y ?_|fail)) <;> (try clear zz)
  exact .int _ _
 ·have z:decide (0 ≤ be (l.getD (k - 1) default) (l.getD k default))=false:=decide_eq_false hv
  rw [if_neg (fun h=>hv h.2)] at hs
  (have zz:=aI @an (aI @ix (aI @iy (aI @zk @z))); repeat' (first|refine zW ?_|refine zM ?_|apply a_n|refine zO ?_|refine vY ?_|refine cY ?_ (hp:=by first | exact hp | exact hc) (hs:=by (first | refine aa ?_ rfl | apply ac); (repeat' (first | exact ab | apply ak | apply ae | exact bD _)); first | done | fail)|refine gTY ?_|refine cFY ?_|(refine zGY ?_ ?_ <;> (intro _hg; try (exfalso; omega)))|fail)) <;> (try clear zz)
  exact ⟨k + 1,by omega,⟨by omega,fun i hi=>by
   rcases Nat.lt_succ_iff_lt_or_eq.1 hi with h | rfl
   ·exact h2 i h
   ·exact hs⟩,ag0⟩
end Go.Proofs.Ytpfkjcjgdilkkaa
namespace Go.Proofs.Ytpfkjcjgdilkkaa
open Go Go.Abs
open Nat (reduceEqDiff reduceAdd reduceLeDiff)
theorem rK (a b c d:Int):ci [.int,.int] [.int .i64 a,.int .i64 b] [.int .i64 c,.int .i64 d]=some (decide (a=c∧b=d)):=by
 have e:∀ x y:Int,(x == y)=decide (x=y):=fun x y=>rfl
 by_cases h1:a=c
 ·by_cases h2:b=d
  ·subst h1 h2; simp [ci,fE]
  ·subst h1; simp only [ci,fE,if_true,e,decide_eq_false h2,decide_true,h2,and_false,decide_false]
 ·simp only [ci,fE,if_true,e,decide_eq_false h1,h1,false_and,decide_false]
theorem acq (a b c d:Int):iS .eql [.int,.int] [.int .i64 a,.int .i64 b] [.int .i64 c,.int .i64 d]=some (.bool (decide (a=c∧b=d))):=by
 unfold iS; rw [rK]
theorem acn (a b c d:Int):iS .neq [.int,.int] [.int .i64 a,.int .i64 b] [.int .i64 c,.int .i64 d]=some (.bool (!decide (a=c∧b=d))):=by
 unfold iS; rw [rK]
theorem gc (v w:Vtx):decide (v.color=w.color∧v.label=w.label)=decide (v=w):=decide_eq_decide.2 n5.symm
theorem nG {H:Hp} {d:Nat} {x y:AV}:dg 2 (ag H d [x,y]) (.msl d 2 2 0 1)=some (1,[x,y]):=jo (n:=2) (len:=1) (off:=0) (cs:=[x,y]) aj rfl (by simp)
theorem bV {α:Type} [Inhabited α] {l:List α} {k:Nat} (h:k < l.length):l.take (k + 1)=l.take k ++ [l.getD k default]:=by
 rw [List.take_add_one]; simp [List.getD,h]
section
variable {α:Type} {K:α→α→Int} {v x:α} {l:List α}
end
def bR (a b:Spx):Bool:=a.all fun v=>decide (v ∈ b)
attribute [local irreducible] aE ah aX aP aH aJ az aK aQ bf Go.Abs.Fn aM Go.Abs.Pure ap aD Yl
theorem zx (l:Spx) (v:Vtx) (hl:Shn l):Pure Try.prog 58 [aq l,bC v] (.bool (decide (v ∈ l))):=by
 refine Pure.of_c2 follows z5 (Nat.le_of_ble_eq_true rfl) ?_
 simp only [b58,cO,cG,cN,cM,cD,cF,cB,ay,aO]
 have hl':l.length ≤ 17592186044416:=hl
 (have zz:=@an; repeat' (first|refine zW ?_|apply a_n|refine zO ?_|refine vZ ?_|refine bxZ ?_|fail)) <;> (try clear zz)
 refine qD (fun k=>[(0,aq l),(3,.ptr 0 2 0),(5,.int .i64 k)]) l.length (fun k=>l.getD k default ≠ v) (by simp (disch:=omega) only [agr,ZG,reduceEqDiff,↓reduceIte,List.length_cons,List.length_nil,Nat.zero_add,reduceAdd]) ?_
 intro k hk hz
 by_cases hk2:k < l.length
 rotate_left
 ·(have zz:=@an; repeat' (first|refine zW ?_|apply a_n|apply a_x|refine zO ?_|refine vZ ?_|(refine zGZ ?_ ?_ <;> (intro _hg; try (exfalso; omega)))|refine af rfl ?_|refine r1Z ?_|fail)) <;> (try clear zz)
  exact bF (tA fun i hi=>hz i (by omega)).symm
 have ix:=ix2 hk2
 have hd:=gc (l.getD k default) v
 by_cases he:l.getD k default=v
 ·rw [decide_eq_true he] at hd
  rw [uE hk2 he]
  (have zz:=aI @an (aI @ix (aI @acq @hd)); repeat' (first|refine zW ?_|apply a_n|apply a_r|refine zO ?_|refine vZ ?_|refine cTZ ?_|(refine zGZ ?_ ?_ <;> (intro _hg; try (exfalso; omega)))|refine af rfl ?_|refine r1Z ?_|fail)) <;> (try clear zz)
  exact .bool _
 ·rw [decide_eq_false he] at hd
  (have zz:=aI @an (aI @ix (aI @acq @hd)); repeat' (first|refine zW ?_|apply a_n|refine zO ?_|refine vZ ?_|refine cFZ ?_|(refine zGZ ?_ ?_ <;> (intro _hg; try (exfalso; omega)))|fail)) <;> (try clear zz)
  exact ⟨hk2,he,ag0,rfl,rfl⟩
theorem uc (a b:Spx) (ha:Shn a) (hb:Shn b):Pure Try.prog 36 [aq a,aq b] (.bool (bR a b)):=by
 refine Pure.of_c2 follows zQ (Nat.le_of_ble_eq_true rfl) ?_
 simp only [b36,cO,cG,cN,cM,cD,cF,cB,ay,aO]
 have ha':a.length ≤ 17592186044416:=ha
 (have zz:=@an; repeat' (first|refine zW ?_|apply a_n|refine zO ?_|refine vZ ?_|fail)) <;> (try clear zz)
 refine qD (fun k=>[(0,aq a),(1,aq b),(5,.int .i64 k)]) a.length (fun k=>decide (a.getD k default ∈ b)=true) ag0 ?_
 intro k hk hz
 by_cases hk2:k < a.length
 rotate_left
 ·(have zz:=@an; repeat' (first|refine zW ?_|apply a_n|apply a_x|refine zO ?_|refine vZ ?_|(refine zGZ ?_ ?_ <;> (intro _hg; try (exfalso; omega)))|refine af rfl ?_|refine r1Z ?_|fail)) <;> (try clear zz)
  exact bF (l7 fun i hi=>hz i (by omega)).symm
 have ix:=ix2 hk2
 have hh:=zx b (a.getD k default) hb
 cases hm:decide (a.getD k default ∈ b)
 ·rw [hm] at hh
  rw [show bR a b=false from jI hk2 hm]
  (have zz:=aI @an @ix; repeat' (first|refine zW ?_|apply a_n|apply a_r|refine zO ?_|refine vZ ?_|refine cZ ?_ (hp:=hh) (hs:=by (first | refine aa ?_ rfl | apply ac); (repeat' (first | exact ab | apply ak | apply ae | exact aB _ | exact bD _)); first | done | fail)|refine cTZ ?_|(refine zGZ ?_ ?_ <;> (intro _hg; try (exfalso; omega)))|refine af rfl ?_|refine r1Z ?_|fail)) <;> (try clear zz)
  exact .bool _
 ·rw [hm] at hh
  (have zz:=aI @an @ix; repeat' (first|refine zW ?_|apply a_n|refine zO ?_|refine vZ ?_|refine cZ ?_ (hp:=hh) (hs:=by (first | refine aa ?_ rfl | apply ac); (repeat' (first | exact ab | apply ak | apply ae | exact aB _ | exact bD _)); first | done | fail)|refine cFZ ?_|(refine zGZ ?_ ?_ <;> (intro _hg; try (exfalso; omega)))|fail)) <;> (try clear zz)
  exact ⟨hk2,rfl,ag0,rfl,rfl⟩
theorem sN (x y:List Spx) (hx:Shn x) (hy:Shn y) (hxs:∀ v ∈ x,Shn v) (hys:∀ v ∈ y,Shn v):Pure Try.prog 27 [av x,av y] (.bool (decide (x=y))):=by
 refine Pure.of_c2 follows zR (Nat.le_of_ble_eq_true rfl) ?_
 simp only [b27,cO,cG,cN,cM,cD,cF,cB,ay,aO]
 have hx':x.length ≤ 17592186044416:=hx
 have hy':y.length ≤ 17592186044416:=hy
 by_cases hlen:x.length=y.length
 rotate_left
 ·have z:decide ((x.length:Int) ≠ y.length)=true:=decide_eq_true (by omega)
  rw [decide_eq_false (fun e=>hlen (by rw [e]))]
  (have zz:=aI @ai @z; repeat' (first|refine zW ?_|apply a_n|apply a_r|refine zO ?_|refine vZ ?_|refine cTZ ?_|refine af rfl ?_|refine r1Z ?_|fail)) <;> (try clear zz)
  exact .bool _
 have z:decide ((x.length:Int) ≠ y.length)=false:=decide_eq_false (by omega)
 (have zz:=aI @ai @z; repeat' (first|refine zW ?_|apply a_n|refine zO ?_|refine vZ ?_|refine cFZ ?_|fail)) <;> (try clear zz)
 refine aR (X:=Nat) (fun k=>[(0,av x),(1,av y),(5,.int .i64 k)]) (fun k H nx=>k ≤ x.length∧∀ i,i < k→x.getD i default=y.getD i default) (fun k=>x.length - k) 0 ⟨Nat.zero_le _,fun i h=>absurd h (by omega)⟩ ag0 ?_
 rintro k H nx ⟨hk,hz⟩
 by_cases hk2:k < x.length
 rotate_left
 ·(have zz:=@ai; repeat' (first|refine zW ?_|apply a_n|apply a_x|refine zO ?_|refine vY ?_|(refine zGY ?_ ?_ <;> (intro _hg; try (exfalso; omega)))|refine af rfl ?_|refine r1Y ?_|fail)) <;> (try clear zz)
  refine bF ?_
  symm; rw [decide_eq_true_iff]
  refine List.ext_getElem hlen fun i h3 h4=>?_
  have:=hz i (by omega)
  simpa [List.getD,h3,h4] using this
 have ix:=dZ hk2
 have iy:=dZ (l:=y) (k:=k) (by omega)
 have hc:=v9 (x.getD k default) (y.getD k default) (hxs _ (aA hk2)) (hys _ (aA (by omega)))
 by_cases he:x.getD k default=y.getD k default
 ·rw [decide_eq_true he] at hc
  (have zz:=aI @ai (aI @ix @iy); repeat' (first|refine zW ?_|refine zM ?_|apply a_n|refine zO ?_|refine vY ?_|refine cY ?_ (hp:=hc) (hs:=by (first | refine aa ?_ rfl | apply ac); (repeat' (first | exact ab | apply ak | apply ae | exact aB _)); first | done | fail)|refine cFY ?_|(refine zGY ?_ ?_ <;> (intro _hg; try (exfalso; omega)))|fail)) <;> (try clear zz)
  exact ⟨k + 1,by omega,⟨by omega,fun i hi=>by
   rcases Nat.lt_succ_iff_lt_or_eq.1 hi with h | rfl
   ·exact hz i h
   ·exact he⟩,ag0⟩
 ·rw [decide_eq_false he] at hc
  rw [decide_eq_false (p:=x=y) (fun e=>he (by rw [e]))]
  (have zz:=aI @ai (aI @ix @iy); repeat' (first|refine zW ?_|refine zM ?_|apply a_n|apply a_r|refine zO ?_|refine vY ?_|refine cY ?_ (hp:=hc) (hs:=by (first | refine aa ?_ rfl | apply ac); (repeat' (first | exact ab | apply ak | apply ae | exact aB _)); first | done | fail)|refine cTY ?_|(refine zGY ?_ ?_ <;> (intro _hg; try (exfalso; omega)))|refine af rfl ?_|refine r1Y ?_|fail)) <;> (try clear zz)
  exact .bool _
def gX (c:List Spx):Bool:=decide (c.length ≤ 30) && c.all fun s=>decide (s.length ≤ 10)
theorem wx (l:Spx) (hl:Shn l):Pure Try.prog 55 [aq l] (.bool (decide (l.length ≤ 10))):=by
 refine Pure.of_c2 follows zZ (Nat.le_of_ble_eq_true rfl) ?_
 simp only [b55,cO,cG,cN,cM,cD,cF,cB,ay,aO]
 (have zz:=@an; repeat' (first|refine zW ?_|apply a_n|refine zO ?_|refine vZ ?_|refine af rfl ?_|refine r1Z ?_|fail)) <;> (try clear zz)
 exact bF (decide_eq_decide.2 (by omega))
theorem uW (c:List Spx) (hc:Shn c) (hs:∀ s ∈ c,Shn s):Pure Try.prog 33 [av c] (.bool (gX c)):=by
 refine Pure.of_c2 follows An (Nat.le_of_ble_eq_true rfl) ?_
 simp only [b33,cO,cG,cN,cM,cD,cF,cB,ay,aO]
 have hc':c.length ≤ 17592186044416:=hc
 unfold gX
 by_cases h:c.length ≤ 30
 rotate_left
 ·have z:decide (30 < (c.length:Int))=true:=decide_eq_true (by omega)
  rw [decide_eq_false h,Bool.false_and]
  (have zz:=aI @ai @z; repeat' (first|refine zW ?_|apply a_n|apply a_r|refine zO ?_|refine vZ ?_|refine cTZ ?_|refine af rfl ?_|refine r1Z ?_|fail)) <;> (try clear zz)
  exact .bool _
 have z:decide (30 < (c.length:Int))=false:=decide_eq_false (by omega)
 rw [decide_eq_true h,Bool.true_and]
 (have zz:=aI @ai @z; repeat' (first|refine zW ?_|apply a_n|refine zO ?_|refine vZ ?_|refine cFZ ?_|fail)) <;> (try clear zz)
 refine qD (fun k=>[(0,av c),(3,.int .i64 k)]) c.length (fun k=>decide ((c.getD k default).length ≤ 10)=true) ag0 ?_
 intro k hk hz
 by_cases hk2:k < c.length
 rotate_left
 ·(have zz:=@ai; repeat' (first|refine zW ?_|apply a_n|apply a_x|refine zO ?_|refine vZ ?_|(refine zGZ ?_ ?_ <;> (intro _hg; try (exfalso; omega)))|refine af rfl ?_|refine r1Z ?_|fail)) <;> (try clear zz)
  exact bF (l7 fun i hi=>hz i (by omega)).symm
 have ix:=dZ hk2
 have hf:=wx (c.getD k default) (hs _ (aA hk2))
 cases hm:decide ((c.getD k default).length ≤ 10)
 ·rw [hm] at hf
  rw [jI hk2 hm]
  (have zz:=aI @ai @ix; repeat' (first|refine zW ?_|apply a_n|apply a_r|refine zO ?_|refine vZ ?_|refine cZ ?_ (hp:=hf) (hs:=by (first | refine aa ?_ rfl | apply ac); (repeat' (first | exact ab | apply ak | apply ae | exact aB _)); first | done | fail)|refine cTZ ?_|(refine zGZ ?_ ?_ <;> (intro _hg; try (exfalso; omega)))|refine af rfl ?_|refine r1Z ?_|fail)) <;> (try clear zz)
  exact .bool _
 ·rw [hm] at hf
  (have zz:=aI @ai @ix; repeat' (first|refine zW ?_|apply a_n|refine zO ?_|refine vZ ?_|refine cZ ?_ (hp:=hf) (hs:=by (first | refine aa ?_ rfl | apply ac); (repeat' (first | exact ab | apply ak | apply ae | exact aB _)); first | done | fail)|refine cFZ ?_|(refine zGZ ?_ ?_ <;> (intro _hg; try (exfalso; omega)))|fail)) <;> (try clear zz)
  exact ⟨hk2,rfl,ag0,rfl,rfl⟩
abbrev bH (c:List Spx):AV:=.agg [av c]
theorem bo (c:List Spx):Dat (bH c):=Dat.agg (DatL.cons (bl c) DatL.nil)
instance datI_encCx {c:List Spx}:DatI (bH c):=⟨bo c⟩
theorem vW (c:List Spx) (hc:Shn c) (hs:∀ s ∈ c,Shn s):Pure Try.prog 14 [bH c] (.bool (gX c)):=by
 refine Pure.of_c2 follows Aa (Nat.le_of_ble_eq_true rfl) ?_
 simp only [b14,cO,cG,cN,cM,cD,cF,cB,ay,aO]
 have h:=uW c hc hs
 (have zz:=aI @aC @au; repeat' (first|refine zW ?_|apply a_n|refine zO ?_|refine vZ ?_|refine cZ ?_ (hp:=h) (hs:=by (first | refine aa ?_ rfl | apply ac); (repeat' (first | exact ab | apply ak | apply ae | exact bl _)); first | done | fail)|refine bxZ ?_|refine af rfl ?_|refine r1Z ?_|fail)) <;> (try clear zz)
 exact .bool _
theorem pV (x y:List Spx) (hx:Shn x) (hy:Shn y) (hxs:∀ v ∈ x,Shn v) (hys:∀ v ∈ y,Shn v):Pure Try.prog 9 [bH x,bH y] (.bool (decide (x=y))):=by
 refine Pure.of_c2 follows is9 (Nat.le_of_ble_eq_true rfl) ?_
 simp only [b9,cO,cG,cN,cM,cD,cF,cB,ay,aO]
 have h:=sN x y hx hy hxs hys
 (have zz:=aI @aC @au; repeat' (first|refine zW ?_|apply a_n|refine zO ?_|refine vZ ?_|refine cZ ?_ (hp:=h) (hs:=by (first | refine aa ?_ rfl | apply ac); (repeat' (first | exact ab | apply ak | apply ae | exact bl _)); first | done | fail)|refine bxZ ?_|refine af rfl ?_|refine r1Z ?_|fail)) <;> (try clear zz)
 exact .bool _
end Go.Proofs.Ytpfkjcjgdilkkaa
namespace Go.Proofs.Ytpfkjcjgdilkkaa
open Go Go.Abs
theorem kg {α:Type} [Inhabited α] {l:List α} {p:α→Bool} {k:Nat} (hk:k < l.length) (h:∀ i,i < k→p (l.getD i default)=false) (hv:p (l.getD k default)=true):l.any p=true∧l.findIdx p=k:=by
 have e:l.getD k default=l[k]:=by simp [List.getD,hk]
 refine ⟨List.any_eq_true.2 ⟨l[k],List.getElem_mem hk,by rw [← e]; exact hv⟩,(List.findIdx_eq hk).2 ⟨by rw [← e]; exact hv,fun j hj=>by have:=h j hj; rwa [show l.getD j default=l[j] by simp [List.getD,show j < l.length by omega]] at this⟩⟩
section
attribute [local irreducible] aE ah aX aP aH aJ az aK aQ bf Go.Abs.Fn aM Go.Abs.Pure ap aD Yl
theorem uq (l:Spx) (v:Vtx) (hl:Shn l):∃ r:Int,Pure Try.prog 47 [aq l,bC v] (.int .i64 r)∧decide (0 ≤ r)=decide (v ∈ l):=by
 have hl':l.length ≤ 17592186044416:=hl
 have hn:l.findIdx (fun x=>decide (x=v))=l.findIdx (fun x=>decide (x=v)):=rfl
 refine ⟨if l.any (fun x=>decide (x=v)) then (l.findIdx (fun x=>decide (x=v)):Nat) else -1,?_,?_⟩
 rotate_left
 ·by_cases hm:v ∈ l
  ·rw [if_pos (List.any_eq_true.2 ⟨v,hm,by simp⟩),decide_eq_true hm]; simp
  ·rw [if_neg,decide_eq_false hm]
   ·rfl
   ·rw [List.any_eq_true]; rintro ⟨x,hx,e⟩
    exact hm ((of_decide_eq_true e) ▸ hx)
 refine Pure.of_c2 follows zy (Nat.le_of_ble_eq_true rfl) ?_
 simp only [b47,cO,cG,cN,cM,cD,cF,cB,ay,aO]
 (have zz:=@an; repeat' (first|refine zW ?_|apply a_n|refine zO ?_|refine vZ ?_|refine bxZ ?_|fail)) <;> (try clear zz)
 refine aR (X:=Nat) (fun k=>[(0,aq l),(3,.ptr 0 2 0),(6,aq l),(7,.int .i64 l.length),(8,.int .i64 k)]) (fun k H nx=>k ≤ l.length∧H 0=some [.int .i64 v.color,.int .i64 v.label]∧∀ i,i < k→decide (l.getD i default=v)=false) (fun k=>l.length - k) 0 ⟨Nat.zero_le _,rfl,fun i h=>absurd h (by omega)⟩ (by (iterate 5 refine And.intro rfl ?_); trivial) ?_
 rintro k H nx ⟨hk,g0,hz⟩
 by_cases hk2:k < l.length
 rotate_left
 ·rw [hY fun i hi=>hz i (by omega),if_neg (by decide)]
  (have zz:=and_self; repeat' (first|refine zW ?_|apply a_n|apply a_x|refine zO ?_|refine vY ?_|(refine zGY ?_ ?_ <;> (intro _hg; try (exfalso; omega)))|refine af rfl ?_|refine r1Y ?_|fail)) <;> (try clear zz)
  exact cz rfl
 have ix:=ix2 hk2
 have hd:=gc v (l.getD k default)
 cases hp:decide (l.getD k default=v)
 ·rw [decide_eq_false (p:=v=l.getD k default) (fun h=>of_decide_eq_false hp h.symm)] at hd
  (have zz:=aI @ix (aI @g0 (aI @acq @hd)); repeat' (first|refine zW ?_|apply a_n|refine zO ?_|refine vY ?_|refine cFY ?_|(refine zGY ?_ ?_ <;> (intro _hg; try (exfalso; omega)))|fail)) <;> (try clear zz)
  exact ⟨k + 1,by omega,⟨by omega,g0,fun i hi=>by
   rcases Nat.lt_succ_iff_lt_or_eq.1 hi with h | rfl
   ·exact hz i h
   ·exact hp⟩,ag0⟩
 ·rw [decide_eq_true (p:=v=l.getD k default) (of_decide_eq_true hp).symm] at hd
  obtain ⟨e1,e2⟩:=kg (p:=fun x=>decide (x=v)) hk2 hz hp
  rw [e1,e2,if_pos rfl]
  (have zz:=aI @ix (aI @g0 (aI @acq @hd)); repeat' (first|refine zW ?_|apply a_n|apply a_r|refine zO ?_|refine vY ?_|refine cTY ?_|(refine zGY ?_ ?_ <;> (intro _hg; try (exfalso; omega)))|refine af rfl ?_|refine r1Y ?_|fail)) <;> (try clear zz)
  exact .int _ _
theorem qE (l:Spx) (v:Vtx) (hl:Shn l):Pure Try.prog 21 [aq l,bC v] (.bool (decide (v ∈ l))):=by
 refine Pure.of_c2 follows yc (Nat.le_of_ble_eq_true rfl) ?_
 simp only [b21,cO,cG,cN,cM,cD,cF,cB,ay,aO]
 obtain ⟨r,h,e⟩:=uq l v hl
 (have zz:=and_self; repeat' (first|refine zW ?_|apply a_n|refine zO ?_|refine vZ ?_|refine cZ ?_ (hp:=h) (hs:=by (first | refine aa ?_ rfl | apply ac); (repeat' (first | exact ab | apply ak | apply ae | exact aB _ | exact bD _)); first | done | fail)|refine bxZ ?_|refine af rfl ?_|refine r1Z ?_|fail)) <;> (try clear zz)
 exact bF e
theorem qg (x y:Spx) (hx:Shn x) (hy:Shn y):Pure Try.prog 12 [aq x,aq y] (.bool (decide (x=y))):=by
 refine Pure.of_c2 follows zf (Nat.le_of_ble_eq_true rfl) ?_
 simp only [b12,cO,cG,cN,cM,cD,cF,cB,ay,aO]
 have hx':x.length ≤ 17592186044416:=hx
 have hy':y.length ≤ 17592186044416:=hy
 by_cases hlen:x.length=y.length
 rotate_left
 ·have z:decide ((x.length:Int) ≠ y.length)=true:=decide_eq_true (by omega)
  rw [decide_eq_false (fun e=>hlen (by rw [e]))]
  (have zz:=aI @an @z; repeat' (first|refine zW ?_|apply a_n|apply a_r|refine zO ?_|refine vZ ?_|refine cTZ ?_|refine af rfl ?_|refine r1Z ?_|fail)) <;> (try clear zz)
  exact .bool _
 have z:decide ((x.length:Int) ≠ y.length)=false:=decide_eq_false (by omega)
 (have zz:=aI @an @z; repeat' (first|refine zW ?_|apply a_n|refine zO ?_|refine vZ ?_|refine cFZ ?_|fail)) <;> (try clear zz)
 refine qD (fun k=>[(0,aq x),(1,aq y),(11,aq x),(12,.int .i64 x.length),(13,.int .i64 k)]) x.length (fun k=>x.getD k default=y.getD k default) ag0 ?_
 intro k hk hz
 by_cases hk2:k < x.length
 rotate_left
 ·(have zz:=and_self; repeat' (first|refine zW ?_|apply a_n|apply a_x|refine zO ?_|refine vZ ?_|(refine zGZ ?_ ?_ <;> (intro _hg; try (exfalso; omega)))|refine af rfl ?_|refine r1Z ?_|fail)) <;> (try clear zz)
  refine bF ?_
  symm; rw [decide_eq_true_iff]
  refine List.ext_getElem hlen fun i h3 h4=>?_
  have:=hz i (by omega)
  simpa [List.getD,h3,h4] using this
 have ix:=ix2 hk2
 have iy:=ix2 (l:=y) (k:=k) (by omega)
 have hd:=gc (x.getD k default) (y.getD k default)
 by_cases he:x.getD k default=y.getD k default
 ·rw [decide_eq_true he] at hd
  (have zz:=aI @ix (aI @iy (aI @acn @hd)); repeat' (first|refine zW ?_|apply a_n|refine zO ?_|refine vZ ?_|refine cFZ ?_|(refine zGZ ?_ ?_ <;> (intro _hg; try (exfalso; omega)))|fail)) <;> (try clear zz)
  exact ⟨hk2,he,ag0,rfl,rfl⟩
 ·rw [decide_eq_false he] at hd
  rw [decide_eq_false (p:=x=y) (fun e=>he (by rw [e]))]
  (have zz:=aI @ix (aI @iy (aI @acn @hd)); repeat' (first|refine zW ?_|apply a_n|apply a_r|refine zO ?_|refine vZ ?_|refine cTZ ?_|(refine zGZ ?_ ?_ <;> (intro _hg; try (exfalso; omega)))|refine af rfl ?_|refine r1Z ?_|fail)) <;> (try clear zz)
  exact .bool _
end
end Go.Proofs.Ytpfkjcjgdilkkaa
namespace Go.Proofs.Ytpfkjcjgdilkkaa
open Go Go.Abs
open Nat (reduceEqDiff reduceAdd reduceLeDiff)
theorem sI {l:Spx} {j:Nat} (h:j < l.length):(l.drop j).getD 0 default=l.getD j default:=by simp [List.getD,List.getElem?_drop]
theorem q9 {l:Spx} {v:Vtx} (h:∀ i,i < l.length→l.getD i default ≠ v):v ∉ l:=fun hm=>by
 obtain ⟨i,hi,e⟩:=List.getElem_of_mem hm
 exact h i hi (by simp [List.getD,hi,e])
theorem aU {α:Type} [Inhabited α] {l:List α} {i:Nat} (h:i < l.length):l.getD i default ∈ l:=aA h
attribute [local irreducible] aE ah aX aP aH aJ az aK aQ bf Go.Abs.Fn aM Go.Abs.Pure ap aD Yl
set_option maxHeartbeats 1000000 in
theorem vu (a b:Spx) (ha:bP be a) (hb:bP be b) (la:a.length ≤ 1000000) (lb:b.length ≤ 1000000):Pure Try.prog 40 [aq a,aq b] (.bool (bR a b)):=by
 refine Pure.of_c2 follows yM (Nat.le_of_ble_eq_true rfl) ?_
 simp only [b40,cO,cG,cN,cM,cD,cF,cB,ay,aO]
 (have zz:=@an; repeat' (first|refine zW ?_|apply a_n|refine zO ?_|refine vZ ?_|fail)) <;> (try clear zz)
 refine aR (X:=Nat × Nat) (fun x=>[(1,aq (b.drop x.2)),(7,aq a),(8,.int .i64 a.length),(9,.int .i64 x.1)]) (fun x H nx=>x.1 ≤ a.length∧x.2 ≤ b.length∧(∀ i,i < x.1→decide (a.getD i default ∈ b)=true)∧∀ i m,i < x.2→x.1 ≤ m→m < a.length→b.getD i default ≠ a.getD m default) (fun x=>a.length - x.1) (0,0) ⟨Nat.zero_le _,Nat.zero_le _,fun i h=>absurd h (by omega),fun i m h=>absurd h (by omega)⟩ (by simp (disch:=omega) only [agr,ZG,reduceEqDiff,↓reduceIte,List.drop_zero]) ?_
 rintro ⟨k,j⟩ H nx ⟨h1,h2,h3,h4⟩
 dsimp only at h1 h2 h3 h4 ⊢
 by_cases hk:k < a.length
 rotate_left
 ·(have zz:=and_self; repeat' (first|refine zW ?_|apply a_n|apply a_x|refine zO ?_|refine vY ?_|(refine zGY ?_ ?_ <;> (intro _hg; try (exfalso; omega)))|refine af rfl ?_|refine r1Y ?_|fail)) <;> (try clear zz)
  exact bF (l7 fun i hi=>h3 i (by omega)).symm
 have ix:=ix2 hk
 have hlt:∀ m,k < m→m < a.length→be (a.getD k default) (a.getD m default) < 0:=fun m h5 h6=>dU ha h5 h6
 have hkm:∀ j',(∀ i,i < j'→b.getD i default ≠ a.getD k default)→b.length ≤ j'→decide (a.getD k default ∈ b)=false:=fun j' h5 h6=>decide_eq_false (q9 fun i hi=>h5 i (by omega))
 have hall:decide (a.getD k default ∈ b)=false→bR a b=false:=fun h=>jI hk h
 have hdec:=fun i=>gc (b.getD i default) (a.getD k default)
 have h40:=fun i hi=>h4 i k hi (Nat.le_refl _) hk
 generalize hv:a.getD k default=v at *
 (have zz:=@ix; repeat' (first|refine zW ?_|apply a_n|refine zO ?_|refine vY ?_|refine alY ?_|refine stY ?_|(refine zGY ?_ ?_ <;> (intro _hg; try (exfalso; omega)))|fail)) <;> (try clear zz)
 refine aR (X:=Nat) (fun j'=>[(1,aq (b.drop j')),(6,.ptr nx 2 0),(7,aq a),(8,.int .i64 a.length),(9,.int .i64 k)]) (fun j' H' nx'=>j' ≤ b.length∧H' nx=some [.int .i64 v.color,.int .i64 v.label]∧nx < nx'∧∀ i,i < j'→b.getD i default ≠ v) (fun j'=>b.length - j') j ⟨h2,by rw [aj]; rfl,by omega,h40⟩ (by simp (disch:=omega) only [agr,ZG,reduceEqDiff,↓reduceIte,List.length_cons,List.length_nil,Nat.zero_add,reduceAdd]) ?_
 rintro j' H' nx' ⟨k1,g0,hnx,k2⟩
 have hlen:(b.drop j').length=b.length - j':=List.length_drop ..
 by_cases hj:j' < b.length
 rotate_left
 ·have z1:decide (0 < ((b.drop j').length:Int))=false:=decide_eq_false (by omega)
  have z2:decide (((b.drop j').length:Int)=0)=true:=decide_eq_true (by omega)
  rw [hall (hkm j' k2 (by omega))]
  (have zz:=aI @an (aI @z1 @z2); repeat' (first|refine zW ?_|apply a_n|apply a_x|apply a_r|refine zO ?_|refine vY ?_|refine gFY ?_|refine cTY ?_|refine cFY ?_|refine af rfl ?_|refine r1Y ?_|fail)) <;> (try clear zz)
  exact .bool _
 have z1:decide (0 < ((b.drop j').length:Int))=true:=decide_eq_true (by omega)
 have z2:decide (((b.drop j').length:Int)=0)=false:=decide_eq_false (by omega)
 have iy:=ix2 (l:=b.drop j') (k:=0) (by omega)
 rw [sI hj,show ((0:Nat):Int)=0 from rfl] at iy
 have hd:=hdec j'
 by_cases he:b.getD j' default=v
 ·rw [decide_eq_true he] at hd
  (have zz:=aI @an (aI @z1 (aI @z2 (aI @iy (aI @g0 (aI @acn @hd))))); repeat' (first|refine zW ?_|apply a_n|apply a_x|refine zO ?_|refine vY ?_|refine gTY ?_|refine cFY ?_|fail)) <;> (try clear zz)
  refine ⟨(k + 1,j'),by dsimp only; omega,⟨by dsimp only; omega,by dsimp only; omega,fun i hi=>?_,fun i m h5 h6 h7 e=>?_⟩,ag0⟩
  ·rcases Nat.lt_succ_iff_lt_or_eq.1 hi with h' | rfl
   ·exact h3 i h'
   ·rw [hv,← he]; exact decide_eq_true (aU hj)
  ·have q1:=dU hb h5 hj
   have q2:=hlt m (by dsimp only at h6; omega) h7
   rw [e,he] at q1
   exact kc.ord.asym _ _ q1 q2
 ·rw [decide_eq_false he] at hd
  have hs:iA 2 (aq (b.drop j')) (some (.int .i64 1)) none none=some (aq (b.drop (j' + 1))):=by
   have:=ol (sz:=2) (f:=bC) (l:=b.drop j') (k:=1) (by omega)
   rw [List.drop_drop] at this
   exact this
  (have zz:=aI @an (aI @z1 (aI @z2 (aI @iy (aI @g0 (aI @acn (aI @hd @hs)))))); repeat' (first|refine zW ?_|apply a_n|refine zO ?_|refine vY ?_|refine gTY ?_|refine cTY ?_|fail)) <;> (try clear zz)
  exact ⟨j' + 1,by omega,⟨by omega,g0,hnx,fun i hi=>by
   rcases Nat.lt_succ_iff_lt_or_eq.1 hi with h' | rfl
   ·exact k2 i h'
   ·exact he⟩,ag0⟩
end Go.Proofs.Ytpfkjcjgdilkkaa