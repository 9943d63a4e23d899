/- Texts of this claim, one after the other: AbsI2, AbsO, Code, U1, T100, T101, T102, T103, T104, T105. -/
import Derived.Test.YtpfkjcjgdilkkaaGreatXG3
import Derived.ChangeArms
import Derived.Carry
import Derived.Deep.Slices
import Derived.Lib.SmallJoins
import Derived.Test.YtpfkjcjgdilkkaaGreatProg
import Derived.KernelRfl

set_option linter.unusedSimpArgs false
set_option linter.unusedVariables false
namespace Go.Abs
open Go.RowKit
def SF:Nat:=40
abbrev CL:=FuncId→List AV→HT→Nat→Option (AV × HT × Nat)
abbrev PC:=FuncId→List AV→HT→Option AV
def wY (cl:CL) (pc:PC) (yl:CL) (dm:DM) (i:Ins) (T:TT) (H:HT) (nx:Nat):Option (AV × HT × Nat) :=
 match ic i with
 | .val=>match dm2 dm (toT T) i with
  | true=>match aZ (toT T) (cb H) i with
   | some r=>some (r,H,nx)
   | none=>none
  | false=>none
 | .eff=>match dm2 dm (toT T) i with
  | true=>zp T H nx i
  | false=>none
 | .call=>match i with
  | .call f args=>match ov (toT T) f with
   | .func g caps=>match dm.isText with
    | true=>cl g (args.map (ov (toT T)) ++ caps) H nx
    | false=>match pc g (args.map (ov (toT T)) ++ caps) H with
     | some r=>some (r,H,nx)
     | none=>none
   | .bfn g fs=>match dm.isText with
    | true=>cl g (fs ++ args.map (ov (toT T))) H nx
    | false=>none
   | .yld b=>match dm.isText with
    | true=>yl b (args.map (ov (toT T))) H nx
    | false=>none
   | _=>none
  | _=>none
 | .sp=>match dm.isText with
  | true=>rsp (toT T) H nx i
  | false=>none
def oH (cl:CL) (pc:PC) (yl:CL) (dm:DM):List Op2→TT→HT→Nat→Option (TT × HT × Nat)
 | [],T,H,nx=>some (T,H,nx)
 | o :: l,T,H,nx=>match g2 (toT T) o.g with
  | none=>none
  | some false=>match stT T o.d (.tup []) with
   | some T=>oH cl pc yl dm l T H nx
   | none=>none
  | some true=>match wY cl pc yl dm o.i T H nx with
   | none=>none
   | some (r,H,nx)=>frV r fun r=>match stT T o.d r with
    | some T=>oH cl pc yl dm l T H nx
    | none=>none
structure CLok (P:Program) (L:LV) (cl:CL) (pc:PC) (yl:CL):Prop where
 cl:∀ {g:FuncId} {args:List AV} {H H':HT} {nx nx':Nat} {r:AV} {R:AV→Hp→Nat→Prop},cl g args H nx=some (r,H',nx')→R r (toH L H') nx'→Fn P g args (toH L H) nx R
 pc:∀ {g:FuncId} {args:List AV} {H:HT} {r:AV},pc g args H=some r→gN P g args (toH L H) r
 yl:∀ {g:Nat} {args:List AV} {H H':HT} {nx nx':Nat} {r:AV} {R:AV→Hp→Nat→Prop},yl g args H nx=some (r,H',nx')→R r (toH L H') nx'→Yl P g args (toH L H) nx R
theorem sF {P:Program} {L:LV} {cl:CL} {pc:PC} {yl:CL} (hk:CLok P L cl pc yl) {dm:DM} {i:Ins} {T:TT} {H H':HT} {nx nx':Nat} {r:AV} {K:AV→Hp→Nat→Prop}
    (h:wY cl pc yl dm i T H nx=some (r,H',nx')) (hK:K r (toH L H') nx'):aX P dm i (toT T) (toH L H) nx K:=by
 unfold wY at h
 unfold aX
 cases hi:ic i with
 | val =>
  rw [hi] at h
  simp only at h ⊢
  split at h
  ·rename_i hd
   split at h
   ·rename_i r' hr
    cases h
    exact ⟨hd,by rw [tG bD hr]; exact hK⟩
   ·cases h
  ·cases h
 | eff =>
  rw [hi] at h
  simp only at h ⊢
  split at h
  ·rename_i hd
   exact ⟨hd,by rw [wK h]; exact hK⟩
  ·cases h
 | sp =>
  rw [hi] at h
  simp only at h ⊢
  split at h
  ·rename_i hd
   exact ⟨hd,zw h hK⟩
  ·cases h
 | call =>
  rw [hi] at h
  simp only at h ⊢
  cases i <;> try (cases hi; done)
  rename_i f args
  simp only at h ⊢
  cases hf:ov (toT T) f <;> rw [hf] at h <;> simp only at h <;> try (cases h; done)
  ·rename_i g caps
   left
   show match dm.isText with | false=>_ | true=>_
   cases hd:dm.isText with
   | true=>rw [hd] at h; exact hk.cl h hK
   | false =>
    rw [hd] at h
    simp only at h
    split at h
    ·rename_i r' hr
     cases h
     exact ⟨_,hk.pc hr,hK⟩
    ·cases h
  ·rename_i g fs
   right
   cases hd:dm.isText with
   | true=>rw [hd] at h; exact ⟨rfl,.inr ⟨g,fs,rfl,hk.cl h hK⟩⟩
   | false=>rw [hd] at h; cases h
  ·rename_i b
   right
   cases hd:dm.isText with
   | true=>rw [hd] at h; exact ⟨rfl,.inl ⟨b,rfl,hk.yl h hK⟩⟩
   | false=>rw [hd] at h; cases h
theorem fV {P:Program} {L:LV} {cl:CL} {pc:PC} {yl:CL} (hk:CLok P L cl pc yl) {dm:DM} {K:SP}:∀ {l:List Op2} {T T':TT} {H H':HT} {nx nx':Nat},
    oH cl pc yl dm l T H nx=some (T',H',nx')→K (toT T') (toH L H') nx'→ah P dm l (toT T) (toH L H) nx K
 | [],_,_,_,_,_,_,h,hK=>by cases h; exact hK
 | o :: l,T,T',H,H',nx,nx',h,hK=>by
  simp only [oH] at h
  show aL (g2 (toT T) o.g) _ _
  cases hg:g2 (toT T) o.g with
  | none=>rw [hg] at h; cases h
  | some b =>
   rw [hg] at h
   cases b with
   | false =>
    simp only at h
    split at h
    ·rename_i T1 hs
     have:=fV hk h hK
     rw [iP hs] at this
     exact this
    ·cases h
   | true =>
    simp only at h
    split at h
    ·cases h
    ·rename_i r H1 nx1 hr
     simp only [jJ] at h
     split at h
     ·rename_i T1 hs
      have:=fV hk h hK
      rw [iP hs] at this
      exact sF (K:=fun r H nx=>ah P dm l (aG (toT T) o.d r) H nx K) hk hr this
     ·cases h
def ij (f:AV→AV→Bool):List AV→List AV→Bool
 | [],[]=>true
 | x :: l,y :: m=>match f x y with
  | true=>ij f l m
  | false=>false
 | _,_=>false
theorem l4 {f:AV→AV→Bool} (h:∀ x y,f x y=true→x=y):∀ {l m:List AV},ij f l m=true→l=m
 | [],[],_=>rfl
 | [],_ :: _,h=>by cases h
 | _ :: _,[],h=>by cases h
 | x :: l,y :: m,he=>by
  simp only [ij] at he
  split at he
  ·rename_i hx
   rw [h _ _ hx,l4 h he]
  ·cases he
def po:Nat→AV→AV→Bool
 | 0,_,_=>false
 | k + 1,x,y=>match x with
  | .undef=>match y with
   | .undef=>true
   | _=>false
  | .bool a=>match y with
   | .bool b=>decide (a=b)
   | _=>false
  | .int j a=>match y with
   | .int i b=>decide (j=i) && decide (a=b)
   | _=>false
  | .str a=>match y with
   | .str b=>decide (a=b)
   | _=>false
  | .nilp=>match y with
   | .nilp=>true
   | _=>false
  | .nilf=>match y with
   | .nilf=>true
   | _=>false
  | .nilm=>match y with
   | .nilm=>true
   | _=>false
  | .esl=>match y with
   | .esl=>true
   | _=>false
  | .ptr b n o=>match y with
   | .ptr b' n' o'=>Nat.beq b b' && Nat.beq n n' && Nat.beq o o'
   | _=>false
  | .msl b n s o l=>match y with
   | .msl b' n' s' o' l'=>Nat.beq b b' && Nat.beq n n' && Nat.beq s s' && Nat.beq o o' && Nat.beq l l'
   | _=>false
  | .mp b=>match y with
   | .mp b'=>Nat.beq b b'
   | _=>false
  | .yld b=>match y with
   | .yld b'=>Nat.beq b b'
   | _=>false
  | .sl s l=>match y with
   | .sl s' l'=>Nat.beq s s' && ij (po k) l l'
   | _=>false
  | .iptr l s=>match y with
   | .iptr l' s'=>Nat.beq s s' && ij (po k) l l'
   | _=>false
  | .func s l=>match y with
   | .func s' l'=>Nat.beq s s' && ij (po k) l l'
   | _=>false
  | .agg l=>match y with
   | .agg l'=>ij (po k) l l'
   | _=>false
  | .tup l=>match y with
   | .tup l'=>ij (po k) l l'
   | _=>false
  | _=>false
theorem sc:∀ (k:Nat) (x y:AV),po k x y=true→x=y
 | 0,_,_,h=>by cases h
 | k + 1,x,y,h=>by
  have ih:∀ {l m:List AV},ij (po k) l m=true→l=m:=fun h=>l4 (sc k) h
  cases x <;> simp only [po] at h <;> (try (cases h; done)) <;> cases y <;> simp only [Bool.and_eq_true,decide_eq_true_eq] at h <;> (try (cases h; done)) <;> (try rfl)
  ·rw [h]
  ·rw [h.1,h.2]
  ·rw [h]
  ·rw [Nat.eq_of_beq_eq_true h.1.1,Nat.eq_of_beq_eq_true h.1.2,Nat.eq_of_beq_eq_true h.2]
  ·rw [Nat.eq_of_beq_eq_true h.1,ih h.2]
  ·rw [Nat.eq_of_beq_eq_true h.1,ih h.2]
  ·rw [Nat.eq_of_beq_eq_true h.1.1.1.1,Nat.eq_of_beq_eq_true h.1.1.1.2,Nat.eq_of_beq_eq_true h.1.1.2,Nat.eq_of_beq_eq_true h.1.2,Nat.eq_of_beq_eq_true h.2]
  ·rw [show _=_ from Nat.eq_of_beq_eq_true h.1,ih h.2]
  ·rw [Nat.eq_of_beq_eq_true h]
  ·rw [Nat.eq_of_beq_eq_true h]
  ·rw [ih h]
  ·rw [ih h]
def loadAt (T:Tm):Ins→Option Nat
 | .ld1 a=>match ov T a with
  | .ptr b _ _=>some b
  | _=>none
 | .ldn _ a=>match ov T a with
  | .ptr b _ _=>some b
  | _=>none
 | _=>none
def iL:List (Op2 × Nat)→TT→HT→List Nat→List Nat
 | [],_,_,acc=>acc
 | (o,0) :: l,T,H,acc=>match g2 (toT T) o.g with
  | some true=>match aZ (toT T) (cb H) o.i with
   | some r=>match stT T o.d r with
    | some T'=>match loadAt (toT T) o.i with
     | some b=>iL l T' H (b :: acc)
     | none=>iL l T' H acc
    | none=>acc
   | none=>iL l T H acc
  | _=>iL l T H acc
 | (_,_ + 1) :: l,T,H,acc=>iL l T H acc
def mG (H0 H:HT):List Nat→Bool
 | []=>true
 | b :: l=>match cb H0 b with
  | none=>mG H0 H l
  | some x=>match cb H b with
   | some y=>match ij (po SF) x y with
    | true=>mG H0 H l
    | false=>false
   | none=>false
def l6 (H0:HT) (ids:List Nat):Hp:=fun b=>match ids.elem b with
 | true=>cb H0 b
 | false=>none
theorem m8 {H0 H:HT}:∀ {ids:List Nat},mG H0 H ids=true→∀ b cs,ids.elem b=true→cb H0 b=some cs→cb H b=some cs
 | [],_,b,cs,hb,_=>by cases hb
 | a :: l,h,b,cs,hb,hc=>by
  simp only [mG] at h
  have hb':b=a ∨ l.elem b=true:=by
   rw [List.elem_cons] at hb
   cases e:b == a with
   | true=>exact .inl (eq_of_beq e)
   | false=>rw [e] at hb; exact .inr hb
  split at h
  ·rename_i hn
   rcases hb' with rfl | hb'
   ·rw [hn] at hc; cases hc
   ·exact m8 h b cs hb' hc
  ·rename_i x hx
   split at h
   ·rename_i y hy
    split at h
    ·rename_i he
     rcases hb' with rfl | hb'
     ·rw [hx] at hc; cases hc
      rw [hy,l4 (sc SF) he]
     ·exact m8 h b cs hb' hc
    ·cases h
   ·cases h
theorem oa {L:LV} {H0 H:HT} {ids:List Nat} (h:mG H0 H ids=true):Sub (l6 H0 ids) (toH L H):=fun b cs hb=>by
 unfold l6 at hb
 split at hb
 ·rename_i he
  exact bD b cs (m8 h b cs he hb)
 ·cases hb
def fO (cl:CL) (pc:PC) (yl:CL) (H0:HT) (ids:List Nat):List (Op2 × Nat)→TT→HT→Nat→Option (TT × HT × Nat)
 | [],T,H,nx=>some (T,H,nx)
 | (o,0) :: l,T,H,nx=>match g2 (toT T) o.g with
  | none=>none
  | some false=>match stT T o.d (.tup []) with
   | some T=>fO cl pc yl H0 ids l T H nx
   | none=>none
  | some true=>match aZ (toT T) (l6 H0 ids) o.i with
   | none=>none
   | some r=>frV r fun r=>match stT T o.d r with
    | some T=>fO cl pc yl H0 ids l T H nx
    | none=>none
 | (o,k + 1) :: l,T,H,nx=>match g2 (toT T) o.g with
  | none=>none
  | some false=>match stT T o.d (.tup []) with
   | some T=>fO cl pc yl H0 ids l T H nx
   | none=>none
  | some true=>if k=2 then (match qD (toT T) o.i with
      | none=>none
      | some r=>frV r fun r=>match stT T o.d r with
       | some T=>fO cl pc yl H0 ids l T H nx
       | none=>none)
   else match wY cl pc yl .text o.i T H nx with
    | none=>none
    | some (r,H,nx)=>match (match k with | 0=>mG H0 H ids | _=>true) with
     | true=>frV r fun r=>match stT T o.d r with
      | some T=>fO cl pc yl H0 ids l T H nx
      | none=>none
     | false=>none
theorem eM {P:Program} {L:LV} {cl:CL} {pc:PC} {yl:CL} (hk:CLok P L cl pc yl) {H0:HT} {ids:List Nat} {K:SP}:∀ {l:List (Op2 × Nat)} {T T':TT} {H H':HT} {nx nx':Nat},
    fO cl pc yl H0 ids l T H nx=some (T',H',nx')→K (toT T') (toH L H') nx'→bb P (l6 H0 ids) l (toT T) (toH L H) nx K
 | [],_,_,_,_,_,_,h,hK=>by cases h; exact hK
 | (o,0) :: l,T,T',H,H',nx,nx',h,hK=>by
  simp only [fO] at h
  show aL (g2 (toT T) o.g) _ _
  cases hg:g2 (toT T) o.g with
  | none=>rw [hg] at h; cases h
  | some b =>
   rw [hg] at h
   cases b with
   | false =>
    simp only at h
    split at h
    ·rename_i T1 hs
     have:=eM hk h hK
     rw [iP hs] at this
     exact this
    ·cases h
   | true =>
    simp only at h
    split at h
    ·cases h
    ·rename_i r hr
     simp only [jJ] at h
     split at h
     ·rename_i T1 hs
      have:=eM hk h hK
      rw [iP hs] at this
      show az (aZ (toT T) (l6 H0 ids) o.i) _
      rw [hr]; exact this
     ·cases h
 | (o,k + 1) :: l,T,T',H,H',nx,nx',h,hK=>by
  simp only [fO] at h
  show aL (g2 (toT T) o.g) _ _
  cases hg:g2 (toT T) o.g with
  | none=>rw [hg] at h; cases h
  | some b =>
   rw [hg] at h
   cases b with
   | false =>
    simp only at h
    split at h
    ·rename_i T1 hs
     have:=eM hk h hK
     rw [iP hs] at this
     exact this
    ·cases h
   | true =>
    simp only at h
    show if k=2 then _ else _
    split at h
    ·rename_i h2
     rw [if_pos h2]
     split at h
     ·cases h
     ·rename_i r hr
      simp only [jJ] at h
      split at h
      ·rename_i T1 hs
       have:=eM hk h hK
       rw [iP hs] at this
       rw [hr]; exact this
      ·cases h
    ·rename_i h2
     rw [if_neg h2]
     split at h
     ·cases h
     ·rename_i r H1 nx1 hr
      split at h
      ·rename_i hkeep
       simp only [jJ] at h
       split at h
       ·rename_i T1 hs
        have:=eM hk h hK
        rw [iP hs] at this
        refine sF (K:=fun r H' nx'=>(k=0→Sub (l6 H0 ids) H')∧bb P (l6 H0 ids) l (aG (toT T) o.d r) H' nx' K) hk hr ⟨fun hk0=>?_,this⟩
        subst hk0
        exact oa hkeep
       ·cases h
      ·cases h
def rvs (T:Tm) (H:Hp):List RV→Option (List AV)
 | []=>some []
 | a :: l=>match rv T H a with
  | some x=>match rvs T H l with
   | some xs=>some (x :: xs)
   | none=>none
  | none=>none
def zH (T:Tm) (H:Hp):List RV→Option AV
 | []=>some (.tup [])
 | [a]=>rv T H a
 | [a,b]=>match rv T H a,rv T H b with
  | some x,some y=>some (.tup [x,y])
  | _,_=>none
 | [a,b,c]=>match rv T H a,rv T H b,rv T H c with
  | some x,some y,some z=>some (.tup [x,y,z])
  | _,_,_=>none
 | a :: b :: c :: d :: l=>(rvs T H (a :: b :: c :: d :: l)).map .tup
theorem p6 {T:Tm} {S H:Hp} (hs:Sub S H):∀ {l:List RV} {xs:List AV} {K:List AV→Prop},rvs T S l=some xs→K xs→ue T H l K
 | [],xs,K,h,hK=>by cases h; exact hK
 | a :: l,xs,K,h,hK=>by
  simp only [rvs] at h
  split at h
  ·rename_i x hx
   split at h
   ·rename_i ys hy
    cases h
    show az (rv T H a) _
    rw [iH hs hx]
    exact p6 hs hy hK
   ·cases h
  ·cases h
theorem wB {T:Tm} {S H:Hp} (hs:Sub S H) {l:List RV} {r:AV} {K:AV→Prop} (h:zH T S l=some r) (hK:K r):be T H K l:=by
 rcases l with _ | ⟨a,_ | ⟨b,_ | ⟨c,_ | ⟨d,l⟩⟩⟩⟩ <;> simp only [zH] at h
 ·cases h; exact hK
 ·exact r_1 (iH hs h) hK
 ·split at h
  ·rename_i x y hx hy
   cases h; exact r_2 (iH hs hx) (iH hs hy) hK
  ·cases h
 ·split at h
  ·rename_i x y z hx hy hz
   cases h; exact r_3 (iH hs hx) (iH hs hy) (iH hs hz) hK
  ·cases h
 ·cases ho:rvs T S (a :: b :: c :: d :: l) with
  | none=>rw [ho] at h; cases h
  | some xs =>
   rw [ho] at h
   cases h
   exact p6 hs ho hK
structure LFr where
 y:Nat
 ps:List Nat
 a:C2
 b:C2
 T:TT
abbrev RN:=List LFr→C2→TT→HT→Nat→Option (AEx × TT × HT × Nat)
def io (code:FuncId→Option F2) (rn:RN) (fr:List LFr):CL:=fun g args H nx =>
 match code g with
 | none=>none
 | some F=>if args.length ≤ F.n then match ve args with
     | none=>none
     | some T=>match rn fr F.body T H nx with
      | none=>none
      | some (e,T',H',nx')=>match e.ends with
       | true=>match zH (toT T') (cb H') F.res with
        | some r=>frV r fun r=>some (r,H',nx')
        | none=>none
       | false=>none
  else none
def jb (code:FuncId→Option F2) (rn:RN):PC:=fun g args H =>
 match bQ (snapV bn SF) args with
 | some a=>match io code rn [] g a .leaf 0 with
  | some (v,H',_)=>snapV (cb H') SF v
  | none=>none
 | none=>match bQ (snapV (cb H) SF) args with
  | some a=>match io code rn [] g a .leaf 0 with
   | some (v,H',_)=>match snapV (cb H') SF v with
    | some r=>match r.sca with
     | true=>some r
     | false=>fm (cb H') SF v
    | none=>none
   | none=>none
  | none=>none
def f8 (H:Hp):Nat→List AV→List Nat→List Nat
 | 0,_,acc=>acc
 | _ + 1,[],acc=>acc
 | k + 1,x :: l,acc=>match x with
  | .msl b _ _ _ _=>match acc.elem b with
   | true=>f8 H k l acc
   | false=>f8 H k ((H b).getD [] ++ l) (b :: acc)
  | .ptr b _ _=>match acc.elem b with
   | true=>f8 H k l acc
   | false=>f8 H k ((H b).getD [] ++ l) (b :: acc)
  | .sl _ cs=>f8 H k (cs ++ l) acc
  | .iptr cs _=>f8 H k (cs ++ l) acc
  | .func _ cs=>f8 H k (cs ++ l) acc
  | .agg cs=>f8 H k (cs ++ l) acc
  | .tup cs=>f8 H k (cs ++ l) acc
  | _=>f8 H k l acc
def RF2:Nat:=100000
def iv:List Nat→HT→Option HT
 | [],H=>some H
 | b :: l,H=>match PT.set LIM H b none with
  | some H=>iv l H
  | none=>none
def vC (code:FuncId→Option F2) (rn:RN):CL:=fun g args H nx =>
 match bQ (snapV bn SF) args with
 | some a=>match io code rn [] g a .leaf 0 with
  | some (v,H',_)=>match snapV (cb H') SF v with
   | some r=>some (r,H,nx)
   | none=>none
  | none=>none
 | none=>match bQ (snapV (cb H) SF) args with
  | some a=>match io code rn [] g a .leaf 0 with
   | some (v,H',_)=>match snapV (cb H') SF v with
    | some r=>match r.sca with
     | true=>some (r,H,nx)
     | false=>match fm (cb H') SF v with
      | some r=>some (r,H,nx)
      | none=>match iv (f8 (cb H) RF2 args []) H with
       | some H2=>match bQ (snapV (fun b=>match (cb H2 b).isSome with | true=>none | false=>cb H b) SF) args with
        | some a2=>match io code rn [] g a2 .leaf 0 with
         | some (v,H',_)=>match snapV (cb H') SF v with
          | some r=>some (r,H2,nx)
          | none=>none
         | none=>none
        | none=>none
       | none=>none
    | none=>none
   | none=>none
  | none=>none
structure CT where
 c:FuncId→List AV→Nat→Option AV
 q:FuncId→List AV→Option AV
def AF:CT:=⟨fun _ _ _=>none,fun _ _=>none⟩
structure CTok (P:Program) (ct:CT):Prop where
 c:∀ (g:FuncId) (args:List AV) (nx:Nat) (r:AV),ct.c g args nx=some r→∀ (H:Hp) (R:AV→Hp→Nat→Prop),R r (aj H nx []) (nx + 1)→Fn P g args H nx R
 q:∀ (g:FuncId) (args:List AV) (r:AV),ct.q g args=some r→Pure P g args r
theorem wF {P:Program}:CTok P AF:=⟨fun _ _ _ _ h=>(by cases h),fun _ _ _ h=>(by cases h)⟩
def rA (q:FuncId→List AV→Option AV) (g:FuncId) (args:List AV) (H:HT) (nx:Nat):Option (AV × HT × Nat) :=
 match bQ (snapV bn SF) args with
 | some a=>match q g a with
  | some r=>some (r,H,nx)
  | none=>none
 | none=>match bQ (snapV (cb H) SF) args with
  | some a=>match q g a with
   | some r=>match r.sca with
    | true=>some (r,H,nx)
    | false=>match iv (f8 (cb H) RF2 args []) H with
     | some H2=>match bQ (snapV (fun b=>match (cb H2 b).isSome with | true=>none | false=>cb H b) SF) args with
      | some a2=>match q g a2 with
       | some r2=>some (r2,H2,nx)
       | none=>none
      | none=>none
     | none=>none
   | none=>none
  | none=>none
def kw (code:FuncId→Option F2) (pf:FuncId→Bool) (ct:CT) (rn:RN) (fr:List LFr):CL:=fun g args H nx =>
 match ct.c g args nx with
 | some r=>match PT.set LIM H nx (some (.cells [])) with
  | some H2=>some (r,H2,nx + 1)
  | none=>none
 | none=>match pf g with
  | true=>match rA ct.q g args H nx with
   | some r=>some r
   | none=>vC code rn g args H nx
  | false=>io code rn fr g args H nx
def lQ:List LFr→Nat→Option (LFr × List LFr)
 | [],_=>none
 | F :: l,y=>match Nat.beq F.y y with
  | true=>some (F,l)
  | false=>lQ l y
def stL (T:TT):List Nat→List AV→Option TT
 | t :: ts,x :: xs=>match PT.set LIM T t (some x) with
  | some T=>stL T ts xs
  | none=>none
 | _,_=>some T
def uW:AEx→Bool
 | .normal=>true
 | _=>false
def qc (rn:RN) (fr:List LFr):CL:=fun y args H nx =>
 match lQ fr y with
 | none=>none
 | some (F,l)=>match H.get y with
  | some (.mark none)=>match Nat.beq args.length F.ps.length with
   | true=>match stL F.T F.ps args with
    | none=>none
    | some T1=>match rn l F.a T1 H nx with
     | some (.normal,T2,H2,nx2)=>match H2.get y with
      | some (.mark none)=>match PT.set LIM H2 y none with
       | none=>none
       | some H3=>match rn l F.b T2 H3 nx2 with
        | none=>none
        | some (e,T4,H4,nx4)=>match e with
         | .normal=>match PT.set LIM H4 y (some (.mark none)) with
          | some H5=>some (.bool true,H5,nx4)
          | none=>none
         | e=>match PT.set LIM H4 y (some (.mark (some e))) with
          | some H5=>some (.bool false,H5,nx4)
          | none=>none
      | _=>none
     | _=>none
   | false=>none
  | _=>none
def AU (m nx:Nat):DM:=match m with
 | 0=>.text
 | 1=>.draw
 | _=>.fresh nx
def sP (m nx:Nat):DM:=match m with
 | 1=>.draw
 | _=>.fresh nx
def qr (x:Option (TT × HT × Nat)):Option (AEx × TT × HT × Nat):=match x with
 | some (T,H,nx)=>some (.normal,T,H,nx)
 | none=>none
def run (code:FuncId→Option F2) (pf:FuncId→Bool) (ct:CT):Nat→RN
 | 0,_,_,_,_,_=>none
 | n + 1,fr,c,T,H,nx=>match c with
  | .skip=>some (.normal,T,H,nx)
  | .exit i=>some (.exit i,T,H,nx)
  | .ret=>some (.ret,T,H,nx)
  | .ops m l=>qr (oH (kw code pf ct (run code pf ct n) fr) (jb code (run code pf ct n)) (qc (run code pf ct n) fr) (AU m nx) l T H nx)
  | .mix m l C=>match Nat.beq m 9 with
   | true=>qr (oH (kw code pf ct (run code pf ct n) fr) (jb code (run code pf ct n)) (qc (run code pf ct n) fr) .text (C.map fun k=>l.getD k ⟨none,none,.dead⟩) T H nx)
   | false=>match oH (kw code pf ct (run code pf ct n) fr) (jb code (run code pf ct n)) (qc (run code pf ct n) fr) (sP m nx) l T H nx with
    | some x=>qr (some x)
    | none=>qr (oH (kw code pf ct (run code pf ct n) fr) (jb code (run code pf ct n)) (qc (run code pf ct n) fr) .text (C.map fun k=>l.getD k ⟨none,none,.dead⟩) T H nx)
  | .mixS m l C=>match (match Nat.beq m 9 with
      | true=>none
      | false=>oH (kw code pf ct (run code pf ct n) fr) (jb code (run code pf ct n)) (qc (run code pf ct n) fr) (sP m nx) l T H nx) with
   | some x=>qr (some x)
   | none=>match mG H H (iL (C.map fun k=>(l.getD k.1 ⟨none,none,.dead⟩,k.2)) T H []) with
    | true=>qr (fO (kw code pf ct (run code pf ct n) fr) (jb code (run code pf ct n)) (qc (run code pf ct n) fr) H (iL (C.map fun k=>(l.getD k.1 ⟨none,none,.dead⟩,k.2)) T H []) (C.map fun k=>(l.getD k.1 ⟨none,none,.dead⟩,k.2)) T H nx)
    | false=>none
  | .seq a b=>match run code pf ct n fr a T H nx with
   | some (.normal,T,H,nx)=>run code pf ct n fr b T H nx
   | r=>r
  | .cond c a b=>match ov (toT T) c with
   | .bool true=>run code pf ct n fr a T H nx
   | .bool false=>run code pf ct n fr b T H nx
   | _=>none
  | .block id b=>match run code pf ct n fr b T H nx with
   | some (e,T,H,nx)=>some (gD id e,T,H,nx)
   | none=>none
  | .loop b=>match run code pf ct n fr b T H nx with
   | some (.normal,T,H,nx)=>run code pf ct n fr (.loop b) T H nx
   | r=>r
  | .rangeF g ps a b=>match ov (toT T) g with
   | .func f caps=>match lQ fr nx with
    | some _=>none
    | none=>match PT.set LIM H nx (some (.mark none)) with
     | none=>none
     | some H1=>match io code (run code pf ct n) (⟨nx,ps,a,b,T⟩ :: fr) f (.yld nx :: caps) H1 (nx + 1) with
      | none=>none
      | some (_,H2,nx2)=>match H2.get nx with
       | some (.mark st)=>match PT.set LIM H2 nx none with
        | none=>none
        | some H3=>match st with
         | none=>some (.normal,T,H3,nx2)
         | some e=>match uW e with
          | true=>none
          | false=>some (e,T,H3,nx2)
       | _=>none
   | _=>none
def gw (P:Program) (code:FuncId→Option F2):Prop:=∀ {f:FuncId} {F:F2},code f=some F→Is P f F
def da (P:Program) (L:LV):List LFr→Prop
 | []=>True
 | F :: fr => (∀ (args : List AV) (H' : Hp) (nx' : Nat) (K' : AV → Hp → Nat → Prop), H' F.y = some (L F.y none) → args.length = F.ps.length →
       aD P F.a (fp (toT F.T) F.ps args) H' nx' (fun e T2 H2 nx2=>aH e (H2 F.y=some (L F.y none)∧aD P F.b T2 (bX H2 F.y) nx2 fun e T3 H3 nx3=>aH e (K' (.bool true) (aj H3 F.y (L F.y none)) nx3) (K' (.bool false) (aj H3 F.y (L F.y (some e))) nx3)) False) →
       Yl P F.y args H' nx' K')∧da P L fr
def xR:List Nat→FuncId→Bool
 | [],_=>false
 | k :: l,f=>match Nat.beq k f with
  | true=>true
  | false=>xR l f
theorem qF {P:Program} {L:LV}:∀ {fr:List LFr} {y:Nat} {F:LFr} {l:List LFr},da P L fr→lQ fr y=some (F,l)→F.y=y∧da P L (F :: l)
 | [],_,_,_,_,h=>by cases h
 | G :: fr,y,F,l,hf,h=>by
  simp only [lQ] at h
  split at h
  ·rename_i e
   cases h
   exact ⟨Nat.eq_of_beq_eq_true e,hf⟩
  ·exact qF hf.2 h
theorem mP {P:Program} {L L':LV} {y:Nat} (hL:∀ b e,b ≠ y→L' b e=L b e):∀ {fr:List LFr},da P L fr→lQ fr y=none→da P L' fr
 | [],_,_=>trivial
 | G :: fr,hf,h=>by
  simp only [lQ] at h
  split at h
  ·cases h
  ·rename_i e
   have hne:G.y ≠ y:=fun he=>by rw [he,Nat.beq_refl] at e; cases e
   refine ⟨?_,mP hL hf.2 h⟩
   have h1:∀ e,L' G.y e=L G.y e:=fun e=>hL _ _ hne
   simp only [h1]
   exact hf.1
theorem uQ:∀ {ts:List Nat} {xs:List AV} {T T':TT},stL T ts xs=some T'→toT T'=fp (toT T) ts xs
 | [],_,_,_,h=>by cases h; rfl
 | _ :: _,[],_,_,h=>by cases h; rfl
 | t :: ts,x :: xs,T,T',h=>by
  simp only [stL] at h
  split at h
  ·rename_i T1 h1
   rw [uQ h,o9 h1]
   rfl
  ·cases h
structure RunOk (P:Program) (rn:RN):Prop where
 ok:∀ {L:LV} {fr:List LFr} {c:C2} {T T':TT} {H H':HT} {nx nx':Nat} {e:AEx} {K:CP},da P L fr→rn fr c T H nx=some (e,T',H',nx')→K e (toT T') (toH L H') nx'→aD P c (toT T) (toH L H) nx K
theorem de {P:Program} {code:FuncId→Option F2} (hc:gw P code) {rn:RN} (hr:RunOk P rn) {L:LV} {fr:List LFr} (hf:da P L fr) {g:FuncId} {args:List AV} {H H':HT} {nx nx':Nat} {r:AV}
    (h:io code rn fr g args H nx=some (r,H',nx')):∃ F,Is P g F∧args.length ≤ F.n∧∀ K:AV→Hp→Nat→Prop,K r (toH L H') nx'→aD P F.body (T0 args) (toH L H) nx fun e T H nx=>aK e.ends (be T H (fun x=>K x H nx) F.res):=by
 unfold io at h
 split at h
 ·cases h
 ·rename_i F hF
  split at h
  ·rename_i hl
   split at h
   ·cases h
   ·rename_i T hT
    split at h
    ·cases h
    ·rename_i e T' H1 nx1 hrun
     split at h
     ·rename_i he
      split at h
      ·rename_i r1 hres
       simp only [jJ] at h
       cases h
       refine ⟨F,hc hF,hl,fun K hK=>?_⟩
       rw [← th hT]
       exact hr.ok hf hrun ⟨he,wB bD hres hK⟩
      ·cases h
     ·cases h
  ·cases h
def L0:LV:=fun _ _=>[]
theorem uS {P:Program} {code:FuncId→Option F2} (hm:P.follows .mixedOrders=true) (hc:gw P code) {rn:RN} (hr:RunOk P rn) {L:LV} {g:FuncId} {args:List AV} {H:HT} {r:AV} (h:jb code rn g args H=some r):gN P g args (toH L H) r:=by
    have hf0:da P L0 []:=trivial
    have n0:Sub bn bn:=fun _ _ h=>h
    unfold jb at h
    split at h
    ·rename_i a ha
     split at h
     ·rename_i v H' nx' hcall
      obtain ⟨F,h1,h2,h3⟩:=de hc hr hf0 hcall
      have hp:Pure P g a r:=Pure.of_c2 hm h1 h2 (h3 (fun x H _=>Snap H x r) (ci bD _ h))
      obtain ⟨o1,o2⟩:=bL ha
      exact hp.callOk (.inl ⟨o1,fun i x y hx hy=>ci n0 _ (o2 i x y hx hy)⟩)
     ·cases h
    ·split at h
     ·rename_i a ha
      obtain ⟨o1,o2⟩:=bL ha
      have hs:aE (toH L H) args a:=⟨o1,fun i x y hx hy=>ci bD _ (o2 i x y hx hy)⟩
      split at h
      ·rename_i v H' nx' hcall
       obtain ⟨F,h1,h2,h3⟩:=de hc hr hf0 hcall
       split at h
       ·rename_i r1 hr1
        split at h
        ·rename_i hsc
         cases h
         have hp:Pure P g a r:=Pure.of_c2 hm h1 h2 (h3 (fun x H _=>Snap H x r) (ci bD _ hr1))
         exact hp.callOk (.inr ⟨hs,hsc⟩)
        ·have hp:fi P g a r:=fi.of_c2 hm h1 h2 (h3 (fun x H _=>SnapF H x r) (jT bD _ h))
         exact hp.callOk hs
       ·cases h
      ·cases h
     ·cases h
theorem iu:∀ {l:List Nat} {H H2:HT},iv l H=some H2→∀ {b:Nat} {c:BC},H2.get b=some c→H.get b=some c
 | [],_,_,h,_,_,hb=>by cases h; exact hb
 | b :: l,H,H2,h,b',c,hb=>by
  simp only [iv] at h
  split at h
  ·rename_i H1 h1
   have:=iu h hb
   rw [PT.get_set _ h1] at this
   split at this
   ·cases this
   ·exact this
  ·cases h
theorem fF {L:LV}:∀ {l:List Nat} {H H2:HT},iv l H=some H2→∀ b cs,toH L H2 b=some cs→toH L H b=some cs
 | [],_,_,h=>by cases h; exact fun _ _ h=>h
 | b :: l,H,H2,h=>by
  simp only [iv] at h
  split at h
  ·rename_i H1 h1
   intro b' cs hb
   have:=fF h b' cs hb
   rw [ow h1] at this
   exact (g9 this).2
  ·cases h
theorem vU {P:Program} {code:FuncId→Option F2} (hm:P.follows .mixedOrders=true) (hc:gw P code) {rn:RN} (hr:RunOk P rn) {L:LV} {g:FuncId} {args:List AV} {H H2:HT} {nx nx':Nat} {r:AV} {R:AV→Hp→Nat→Prop} (h:vC code rn g args H nx=some (r,H2,nx')) (hR:R r (toH L H2) nx'):Fn P g args (toH L H) nx R:=by
 have hf0:da P L0 []:=trivial
 have n0:Sub bn bn:=fun _ _ h=>h
 unfold vC at h
 split at h
 ·rename_i a ha
  split at h
  ·rename_i v H' nx1 hcall
   split at h
   ·rename_i r1 hr1
    cases h
    obtain ⟨F,h1,h2,h3⟩:=de hc hr hf0 hcall
    have hp:Pure P g a r:=Pure.of_c2 hm h1 h2 (h3 (fun x H _=>Snap H x r) (ci bD _ hr1))
    obtain ⟨o1,o2⟩:=bL ha
    exact Fn.of_pure hp (.inl ⟨o1,fun i x y hx hy=>ci n0 _ (o2 i x y hx hy)⟩) hR
   ·cases h
  ·cases h
 ·split at h
  ·rename_i a ha
   obtain ⟨o1,o2⟩:=bL ha
   have hs:aE (toH L H) args a:=⟨o1,fun i x y hx hy=>ci bD _ (o2 i x y hx hy)⟩
   split at h
   ·rename_i v H' nx1 hcall
    obtain ⟨F,h1,h2,h3⟩:=de hc hr hf0 hcall
    split at h
    ·rename_i r1 hr1
     split at h
     ·rename_i hsc
      cases h
      have hp:Pure P g a r:=Pure.of_c2 hm h1 h2 (h3 (fun x H _=>Snap H x r) (ci bD _ hr1))
      exact Fn.of_pure hp (.inr ⟨hs,hsc⟩) hR
     ·split at h
      ·rename_i r2 hr2
       cases h
       have hp:fi P g a r:=fi.of_c2 hm h1 h2 (h3 (fun x H _=>SnapF H x r) (jT bD _ hr2))
       exact Fn.of_callOk (hp.callOk hs) hR
      ·split at h
       ·rename_i H3 bX
        split at h
        ·rename_i a2 ha2
         obtain ⟨q1,q2⟩:=bL ha2
         split at h
         ·rename_i v2 H4 nx4 hcall2
          obtain ⟨F2,k1,k2,k3⟩:=de hc hr hf0 hcall2
          split at h
          ·rename_i r2 hr2
           cases h
           have hp:Pure P g a2 r:=Pure.of_c2 hm k1 k2 (k3 (fun x H _=>Snap H x r) (ci bD _ hr2))
           have hsubF:Sub (fun b=>match (cb H2 b).isSome with | true=>none | false=>cb H b) (fun b=>match (cb H2 b).isSome with | true=>none | false=>cb H b):=fun _ _ h=>h
           refine Fn.of_pureZ (Hf:=fun b=>match (cb H2 b).isSome with | true=>none | false=>cb H b) hp (fun b cs hb=>?_) (fun b cs hb=>⟨fF bX b cs hb,?_⟩) ⟨q1,fun i x y hx hy=>ci hsubF _ (q2 i x y hx hy)⟩ hR
           ·split at hb
            ·cases hb
            ·exact bD b cs hb
           ·split
            ·rfl
            ·rename_i hn
             have:=fF bX b cs hb
             unfold cb at hn ⊢
             unfold toH at hb this
             cases hg:H2.get b with
             | none=>rw [hg] at hb; cases hb
             | some c =>
              cases c with
              | cells cs'=>rw [hg] at hn; cases hn
              | mark e =>
               cases hg2:H.get b with
               | none=>rfl
               | some c2=>cases c2 with
                | mark e2=>rfl
                | cells cs2=>exact absurd (iu bX hg) (by rw [hg2]; intro h; cases h)
          ·cases h
         ·cases h
        ·cases h
       ·cases h
    ·cases h
   ·cases h
  ·cases h
theorem tQ {P:Program} {q:FuncId→List AV→Option AV} (hq:∀ (g:FuncId) (args:List AV) (r:AV),q g args=some r→Pure P g args r) {L:LV} {g:FuncId} {args:List AV} {H H2:HT} {nx nx':Nat} {r:AV} {R:AV→Hp→Nat→Prop} (h:rA q g args H nx=some (r,H2,nx')) (hR:R r (toH L H2) nx'):Fn P g args (toH L H) nx R:=by
 have n0:Sub bn bn:=fun _ _ h=>h
 unfold rA at h
 split at h
 ·rename_i a ha
  split at h
  ·rename_i r1 hr1
   cases h
   obtain ⟨o1,o2⟩:=bL ha
   exact Fn.of_pure (hq _ _ _ hr1) (.inl ⟨o1,fun i x y hx hy=>ci n0 _ (o2 i x y hx hy)⟩) hR
  ·cases h
 ·split at h
  ·rename_i a ha
   obtain ⟨o1,o2⟩:=bL ha
   have hs:aE (toH L H) args a:=⟨o1,fun i x y hx hy=>ci bD _ (o2 i x y hx hy)⟩
   split at h
   ·rename_i r1 hr1
    split at h
    ·rename_i hsc
     cases h
     exact Fn.of_pure (hq _ _ _ hr1) (.inr ⟨hs,hsc⟩) hR
    ·split at h
     ·rename_i H3 bX
      split at h
      ·rename_i a2 ha2
       obtain ⟨q1,q2⟩:=bL ha2
       split at h
       ·rename_i r2 hr2
        cases h
        have hsubF:Sub (fun b=>match (cb H2 b).isSome with | true=>none | false=>cb H b) (fun b=>match (cb H2 b).isSome with | true=>none | false=>cb H b):=fun _ _ h=>h
        refine Fn.of_pureZ (Hf:=fun b=>match (cb H2 b).isSome with | true=>none | false=>cb H b) (hq _ _ _ hr2) (fun b cs hb=>?_) (fun b cs hb=>⟨fF bX b cs hb,?_⟩) ⟨q1,fun i x y hx hy=>ci hsubF _ (q2 i x y hx hy)⟩ hR
        ·split at hb
         ·cases hb
         ·exact bD b cs hb
        ·split
         ·rfl
         ·rename_i hn
          have:=fF bX b cs hb
          unfold cb at hn ⊢
          unfold toH at hb this
          cases hg:H2.get b with
          | none=>rw [hg] at hb; cases hb
          | some c =>
           cases c with
           | cells cs'=>rw [hg] at hn; cases hn
           | mark e =>
            cases hg2:H.get b with
            | none=>rfl
            | some c2=>cases c2 with
             | mark e2=>rfl
             | cells cs2=>exact absurd (iu bX hg) (by rw [hg2]; intro h; cases h)
       ·cases h
      ·cases h
     ·cases h
   ·cases h
  ·cases h
theorem uM {P:Program} {code:FuncId→Option F2} {pf:FuncId→Bool} {ct:CT} (hm:P.follows .mixedOrders=true) (hc:gw P code) (hct:CTok P ct) {rn:RN} (hr:RunOk P rn) {L:LV} {fr:List LFr} (hf:da P L fr):CLok P L (kw code pf ct rn fr) (jb code rn) (qc rn fr) where
 cl:=fun {g args H H' nx nx' r R} h hR=>by
  unfold kw at h
  split at h
  ·rename_i hx
   split at h
   ·rename_i hset
    cases h
    rw [d9 hset] at hR
    exact hct.c _ _ _ _ hx _ _ hR
   ·cases h
  split at h
  ·split at h
   ·rename_i hq
    cases h
    exact tQ hct.q hq hR
   ·exact vU hm hc hr h hR
  ·obtain ⟨F,h1,h2,h3⟩:=de hc hr hf h
   exact Fn.of_c2 hm h1 h2 (h3 _ hR)
 pc:=fun {g args H r} h=>uS hm hc hr h
 yl:=fun {y args H H' nx nx' r R} h hR=>by
  unfold qc at h
  split at h
  ·cases h
  ·rename_i F l hF
   obtain ⟨rfl,hfr⟩:=qF hf hF
   obtain ⟨hy,hl⟩:=hfr
   split at h
   ·rename_i hg
    split at h
    ·rename_i hlen
     split at h
     ·cases h
     ·rename_i T1 hT1
      split at h
      ·rename_i T2 H2 nx2 hrun
       split at h
       ·rename_i hg2
        split at h
        ·cases h
        ·rename_i H3 hdel3
         split at h
         ·cases h
         ·rename_i e T4 H4 nx4 hrun2
          refine hy args (toH L H) nx R (by simp only [toH,hg,bcL]) (Nat.eq_of_beq_eq_true hlen) ?_
          rw [← uQ hT1]
          refine hr.ok (K:=fun e T2 H2 nx2=>aH e (H2 F.y=some (L F.y none)∧aD P F.b T2 (bX H2 F.y) nx2 fun e T3 H3 nx3=>aH e (R (.bool true) (aj H3 F.y (L F.y none)) nx3) (R (.bool false) (aj H3 F.y (L F.y (some e))) nx3)) False) hl hrun ⟨by simp only [toH,hg2,bcL],?_⟩
          rw [← ow hdel3]
          refine hr.ok hl hrun2 ?_
          cases e with
          | normal =>
           simp only at h
           split at h
           ·rename_i H5 h5
            cases h
            rw [i9 h5] at hR
            exact hR
           ·cases h
          | exit i =>
           simp only at h
           split at h
           ·rename_i H5 h5
            cases h
            rw [i9 h5] at hR
            exact hR
           ·cases h
          | ret =>
           simp only at h
           split at h
           ·rename_i H5 h5
            cases h
            rw [i9 h5] at hR
            exact hR
           ·cases h
       ·cases h
      ·cases h
    ·cases h
   ·cases h
theorem gX {x:Option (TT × HT × Nat)} {e:AEx} {T:TT} {H:HT} {nx:Nat} (h:qr x=some (e,T,H,nx)):x=some (T,H,nx)∧e=.normal:=by
 unfold qr at h
 split at h
 ·cases h; exact ⟨rfl,rfl⟩
 ·cases h
theorem uL {P:Program} {code:FuncId→Option F2} {pf:FuncId→Bool} {ct:CT} (hm:P.follows .mixedOrders=true) (hc:gw P code) (hct:CTok P ct):∀ n,RunOk P (run code pf ct n)
 | 0=>⟨fun _ h=>by cases h⟩
 | n + 1=>by
  refine ⟨?_⟩
  intro L fr c T T' H H' nx nx' e K hf h hK
  have ih:RunOk P (run code pf ct n):=uL hm hc hct n
  have hk:=uM (pf:=pf) (ct:=ct) hm hc hct ih hf
  cases c with
  | skip=>cases h; exact hK
  | exit i=>cases h; exact hK
  | ret=>cases h; exact hK
  | ops m l =>
   obtain ⟨h1,rfl⟩:=gX h
   have:=fV hk (K:=K .normal) h1 hK
   refine ⟨_,_,_,_,Gh.refl _ _ _,?_⟩
   unfold AU at this
   exact this
  | mix m l C =>
   simp only [run] at h
   split at h
   ·obtain ⟨h1,rfl⟩:=gX h
    exact .inr ⟨_,_,_,_,Gh.refl _ _ _,fV hk (K:=K .normal) h1 hK⟩
   ·rename_i hb
    split at h
    ·rename_i x hx
     obtain ⟨h1,rfl⟩:=gX h
     cases h1
     have:=fV hk (K:=K .normal) hx hK
     refine .inl ⟨fun e=>?_,_,_,_,_,Gh.refl _ _ _,?_⟩
     ·subst e; cases hb
     ·unfold sP at this; exact this
    ·obtain ⟨h1,rfl⟩:=gX h
     exact .inr ⟨_,_,_,_,Gh.refl _ _ _,fV hk (K:=K .normal) h1 hK⟩
  | mixS m l C =>
   simp only [run] at h
   split at h
   ·rename_i x hx
    split at hx
    ·cases hx
    ·rename_i hb
     obtain ⟨h1,rfl⟩:=gX h
     cases h1
     have:=fV hk (K:=K .normal) hx hK
     refine .inl ⟨fun e=>?_,_,_,_,_,Gh.refl _ _ _,?_⟩
     ·subst e; cases hb
     ·unfold sP at this; exact this
   ·split at h
    ·rename_i hkeep
     obtain ⟨h1,rfl⟩:=gX h
     exact .inr ⟨_,_,_,_,_,Gh.refl _ _ _,oa hkeep,eM hk (K:=K .normal) h1 hK⟩
    ·cases h
  | seq a b =>
   simp only [run] at h
   split at h
   ·rename_i T1 H1 nx1 h1
    exact cQ (ih.ok (K:=fun e T H nx=>aH e (aD P b T H nx K) (K e T H nx)) hf h1 (ih.ok hf h hK))
   ·rename_i hne
    refine cQ (ih.ok (K:=fun e T H nx=>aH e (aD P b T H nx K) (K e T H nx)) hf h ?_)
    cases e with
    | normal=>exact absurd h (hne _ _ _)
    | exit i=>exact hK
    | ret=>exact hK
  | cond c a b =>
   simp only [run] at h
   split at h
   ·rename_i hv
    exact o5 hv (ih.ok hf h hK)
   ·rename_i hv
    exact ph hv (ih.ok hf h hK)
   ·cases h
  | block id b =>
   simp only [run] at h
   split at h
   ·rename_i e1 T1 H1 nx1 h1
    cases h
    exact dE (ih.ok (K:=fun e T H nx=>K (gD id e) T H nx) hf h1 hK)
   ·cases h
  | loop b =>
   simp only [run] at h
   split at h
   ·rename_i T1 H1 nx1 h1
    obtain ⟨k,hl⟩:=ih.ok hf h hK
    exact ⟨k + 1,_,_,_,_,Gh.refl _ _ _,ih.ok (K:=fun e T H nx=>aH e (ka (aD P b) K k T H nx) (K e T H nx)) hf h1 hl⟩
   ·rename_i hne
    refine ⟨1,_,_,_,_,Gh.refl _ _ _,ih.ok (K:=fun e T H nx=>aH e (ka (aD P b) K 0 T H nx) (K e T H nx)) hf h ?_⟩
    cases e with
    | normal=>exact absurd h (hne _ _ _)
    | exit i=>exact hK
    | ret=>exact hK
  | rangeF g ps a b =>
   simp only [run] at h
   split at h
   ·rename_i f caps hg
    split at h
    ·cases h
    ·rename_i hnone
     split at h
     ·cases h
     ·rename_i H1 hset
      split at h
      ·cases h
      ·rename_i v H2 nx2 hcall
       split at h
       ·rename_i st hst
        split at h
        ·cases h
        ·rename_i H3 hdel3
         refine wo hg fun c0 cj hy=>?_
         let L':LV:=fun b e=>if b=nx then (match e with | none=>[c0] | some e=>[cj e]) else L b e
         have hL:∀ b e,b ≠ nx→L' b e=L b e:=fun b e hb=>if_neg hb
         have hn:L' nx none=[c0]:=if_pos rfl
         have hs:∀ e,L' nx (some e)=[cj e]:=fun e=>if_pos rfl
         have hf':da P L' (⟨nx,ps,a,b,T⟩ :: fr):=by
          refine ⟨?_,mP hL hf hnone⟩
          intro args H' nx' K' h1 h2 h3
          simp only [hn,hs] at h1 h3
          exact hy args H' nx' K' h1 h2 h3
         have e1:aj (toH L H) nx [c0]=toH L' H1:=by
          rw [i9 hset,hn]
          funext m
          simp only [aj]
          split
          ·rfl
          ·rename_i hm
           simp only [toH]
           cases H.get m with
           | none=>rfl
           | some x=>cases x with
            | cells cs=>rfl
            | mark e=>simp only [bcL,hL m e hm]
         have e2:bX (toH L' H2) nx=toH L H3:=by
          rw [ow hdel3]
          funext m
          simp only [bX]
          split
          ·rfl
          ·rename_i hm
           simp only [toH]
           cases H2.get m with
           | none=>rfl
           | some x=>cases x with
            | cells cs=>rfl
            | mark e=>simp only [bcL,hL m e hm]
         rw [e1]
         obtain ⟨F,k1,k2,k3⟩:=de hc ih hf' hcall
         refine Fn.of_c2 hm k1 k2 (k3 _ ?_)
         cases st with
         | none =>
          cases h
          left
          refine ⟨by simp only [toH,hst,bcL,hn],?_⟩
          rw [e2]; exact hK
         | some e1' =>
          simp only at h
          split at h
          ·cases h
          ·rename_i hnn
           cases h
           right
           refine ⟨e,(fun hh=>by rw [hh] at hnn; cases hnn),by simp only [toH,hst,bcL,hs],?_⟩
           rw [e2]; exact hK
       ·cases h
   ·cases h
def yX (code:FuncId→Option F2) (pf:FuncId→Bool) (ct:CT) (n:Nat) (f:FuncId) (args:List AV) (good:AV→Bool):Bool :=
 match io code (run code pf ct n) [] f args .leaf 0 with
 | some (v,H',_)=>match snapV (cb H') SF v with
  | some r=>good r
  | none=>false
 | none=>false
theorem Pure.of_runC {P:Program} {code:FuncId→Option F2} {pf:FuncId→Bool} {ct:CT} (hm:P.follows .mixedOrders=true) (hc:gw P code) (hct:CTok P ct) {n:Nat} {f:FuncId} {args:List AV} {good:AV→Bool} {r:AV} (h:yX code pf ct n f args good=true) (hg:∀ x,good x=true→x=r):Pure P f args r:=by
 unfold yX at h
 split at h
 ·rename_i v H' nx' hcall
  split at h
  ·rename_i r1 hr1
   have:=hg _ h
   subst this
   obtain ⟨F,h1,h2,h3⟩:=de hc (uL hm hc hct n) (L:=L0) (fr:=[]) trivial hcall
   exact Pure.of_c2 hm h1 h2 (h3 (fun x H _=>Snap H x r1) (ci bD _ hr1))
  ·cases h
 ·cases h
theorem Pure.of_run {P:Program} {code:FuncId→Option F2} {pf:FuncId→Bool} (hm:P.follows .mixedOrders=true) (hc:gw P code) {n:Nat} {f:FuncId} {args:List AV} {good:AV→Bool} {r:AV} (h:yX code pf AF n f args good=true) (hg:∀ x,good x=true→x=r):Pure P f args r :=
 Pure.of_runC hm hc wF h hg
def isTrue:AV→Bool | .bool true=>true | _=>false
theorem tn:∀ x,isTrue x=true→x=.bool true:=by
 intro x h
 cases x <;> try (cases h; done)
 rename_i b
 cases b
 ·cases h
 ·rfl
def lookup:List (Nat × F2)→FuncId→Option F2
 | [],_=>none
 | (k,F) :: l,f=>match Nat.beq k f with
  | true=>some F
  | false=>lookup l f
theorem tC {P:Program}:gw P (lookup []):=fun h=>by cases h
theorem am {P:Program} {k:Nat} {F:F2} {l:List (Nat × F2)} (h:Is P k F) (hs:gw P (lookup l)):gw P (lookup ((k,F) :: l)):=fun {f F'} hf=>by
 simp only [lookup] at hf
 split at hf
 ·rename_i e
  cases hf
  rw [Nat.eq_of_beq_eq_true e] at h
  exact h
 ·exact hs hf
end Go.Abs
namespace Go.Abs
open Go Go.RowKit
def ny (W:World):Nat→Prop:=fun b=>b < W.heap.size
theorem tY {W:World} {a:Addr} {v:Value} (h:W.cell? a=some v):ny W a.block∧a.spot=none:=by
 unfold World.cell? at h
 unfold ny
 cases hb:W.heap[a.block]? with
 | none=>simp [hb] at h
 | some o =>
  refine ⟨(Array.getElem?_eq_some_iff.1 hb).1,?_⟩
  cases hs:a.spot with
  | none=>rfl
  | some s=>cases o <;> simp [hb,hs] at h
section
variable {H:Type} {enc:TypeId × Value→H} {P:Program} {W:World}
def cS (enc:TypeId × Value→H) (P:Program) (W:World) (t:TypeId) {α:Type} (f:α→AV) (good:α→Prop):Prop :=
 ∀ (n:Nat) (cs:List Value) (x:DataW H × List MemPlace),DataW.trod enc P W 0 (fun _=>true) true n t cs=some x→(∀ k ∈ x.1.weights P t,k ≤ reachBytes)→∃ a:α,good a∧bV (E0 (ny W)) W (f a).cells cs
theorem cS.mono {t:TypeId} {α:Type} {f:α→AV} {good good':α→Prop} (h:cS enc P W t f good) (hg:∀ a,good a→good' a):cS enc P W t f good' :=
 fun n cs x hx hw=>let ⟨a,h1,h2⟩:=h n cs x hx hw; ⟨a,hg a h1,h2⟩
theorem lC {E:Env} {w:World} {x:AV} {y:Value} (h:Rel E w x y):bV E w [x] [y]:=⟨rfl,fun i a b ha hb=>by
 cases i with
 | zero=>simp at ha hb; subst ha hb; exact h
 | succ i=>simp at ha⟩
theorem bV.app {E:Env} {w:World} {xs xs':List AV} {ys ys':List Value} (h:bV E w xs ys) (h':bV E w xs' ys'):bV E w (xs ++ xs') (ys ++ ys'):=by
 have hl:xs.length=ys.length:=h.1.symm
 refine ⟨by simp [h.1,h'.1],fun i a b ha hb=>?_⟩
 by_cases hi:i < xs.length
 ·rw [List.getElem?_append_left hi] at ha
  rw [List.getElem?_append_left (by omega)] at hb
  exact h.2 i a b ha hb
 ·rw [List.getElem?_append_right (by omega)] at ha
  rw [List.getElem?_append_right (by omega)] at hb
  rw [hl] at ha
  exact h'.2 _ a b ha hb
theorem n5 {t:TypeId} {k:IntKind} (ht:P.underlying t=some (.int k)):cS enc P W t (AV.int k) (fun n=>(Lit.int k n).wf=true):=fun n cs x hx _=>by
 obtain ⟨a,rfl,rfl,hw⟩:=DataW.trod_int ht hx
 exact ⟨a,hw,lC (.int _ _)⟩
theorem mN {e:TypeId} {l:List (DataW H)} {d:DataW H} (h:d ∈ l) {k:Nat} (hk:k ∈ d.weights P e):k ∈ DataW.weightsAll P e l:=by
 induction l with
 | nil=>cases h
 | cons a l ih =>
  unfold DataW.weightsAll
  rcases List.mem_cons.1 h with rfl | h
  ·exact List.mem_append_left _ hk
  ·exact List.mem_append_right _ (ih h)
theorem qb {α:Type} {len:Nat} {Q:Nat→α→Prop} (h:∀ i,i < len→∃ a,Q i a):∃ l:List α,l.length=len∧∀ i a,l[i]?=some a→Q i a:=by
 induction len with
 | zero=>exact ⟨[],rfl,fun i a h=>by simp at h⟩
 | succ n ih =>
  obtain ⟨l,h1,h2⟩:=ih (fun i hi=>h i (by omega))
  obtain ⟨a,ha⟩:=h n (by omega)
  refine ⟨l ++ [a],by simp [h1],fun i b hb=>?_⟩
  by_cases hi:i < l.length
  ·rw [List.getElem?_append_left hi] at hb; exact h2 i b hb
  ·rw [List.getElem?_append_right (by omega)] at hb
   have:i - l.length=0:=by
    by_cases h0:i - l.length=0
    ·exact h0
    ·rw [List.getElem?_eq_none (by simp; omega)] at hb; cases hb
   rw [this] at hb; simp at hb; subst hb
   have:i=n:=by omega
   subst this; exact ha
theorem gJ {t e:TypeId} {sz by_:Nat} {α:Type} {f:α→AV} {good:α→Prop} (ht:P.underlying t=some (.slice e)) (hsz:P.cellsOf e=sz) (hby:P.bytesOf e=by_) (hpos:0 < sz) (hc:∀ a,(f a).cells.length=sz)
    (he:cS enc P W e f good):cS enc P W t (eV sz f) (fun l=>(∀ a ∈ l,good a)∧l.length ≤ 9223372036854775807∧l.length * by_ ≤ 140737488351232):=fun n cs x hx hw=>by
 rcases Go.Deep.open_slice ht hx with ⟨rfl,rfl⟩ | ⟨a,len,cap,m,n',D,Pl,rfl,hb,hlc,hcm,hm,hxe,hel⟩
 ·exact ⟨[],⟨fun _ h=>(by cases h),by simp,by simp⟩,lC (.slnil _)⟩
 simp only [if_true] at hm
 subst hxe
 subst hm
 have hw':∀ k ∈ ((DataW.slice (H:=H) ((List.range len).map D) ((List.range (m - len)).map fun j=>D (len + j))).weights P t),k ≤ reachBytes:=hw
 simp only [DataW.weights,ht] at hw'
 have hlen:(((List.range len).map D).length + ((List.range (m - len)).map fun j=>D (len + j)).length) * P.bytesOf e ≤ reachBytes:=hw' _ (List.mem_cons_self ..)
 have hbd:len * by_ ≤ 140737488351232:=by
  rw [hby] at hlen
  simp only [List.length_map,List.length_range] at hlen
  have h1:len * by_ ≤ (len + (m - len)) * by_:=Nat.mul_le_mul_right _ (by omega)
  have h2:reachBytes=140737488351232:=rfl
  omega
 have hlm:len ≤ 9223372036854775807:=Nat.le_trans hlc hcm
 have key:∀ i,i < len→∃ a':α,good a'∧∃ cs',W.cells? 0 (a.add (i * sz)) sz=some cs'∧bV (E0 (ny W)) W (f a').cells cs':=fun i hi=>by
  obtain ⟨cs',h1,h2⟩:=hel i (by omega)
  rw [hsz] at h1
  obtain ⟨a',g1,g2⟩:=he n' cs' _ h2 (fun k hk=>hw' k (List.mem_cons_of_mem _ (List.mem_append_left _ (mN (List.mem_map.2 ⟨i,List.mem_range.2 hi,rfl⟩) hk))))
  exact ⟨a',g1,cs',h1,g2⟩
 obtain ⟨l,hl,hq⟩:=qb key
 refine ⟨l,⟨fun x hx=>?_,by omega,by rw [hl]; exact hbd⟩,lC ?_⟩
 ·obtain ⟨i,hi⟩:=List.getElem?_of_mem hx
  exact (hq i x hi).1
 by_cases h0:len=0
 ·subst h0
  have:l=[]:=List.length_eq_zero_iff.1 hl
  subst this
  exact .slempty _ _ _
 have hcell:∀ i j,i < len→j < sz→∃ v,W.cell? ((a.add (i * sz)).add j)=some v:=fun i j hi hj=>by
  obtain ⟨a',_,cs',h1,h2⟩:=key i hi
  unfold World.cells? at h1
  rw [if_pos (Nat.zero_le _)] at h1
  have h3:=mapM_some_get h1 j j (by simp [hj])
  have h4:j < cs'.length:=by
   have:=mapM_some_length h1
   simp at this; omega
  exact ⟨cs'[j],by rw [h3]; simp [h4]⟩
 obtain ⟨v0,hv0⟩:=hcell 0 0 (by omega) hpos
 have ho:=tY hv0
 simp only [Nat.zero_mul,Addr.add,if_true] at ho
 obtain ⟨blk,off,sp⟩:=a
 obtain ⟨ho,hsp⟩:=ho
 simp only at hsp ho
 subst hsp
 have hadd:∀ i j,((⟨blk,off,none⟩:Addr).add (i * sz)).add j=⟨blk,off + (i * sz + j),none⟩:=fun i j=>by
  rw [bx,bx,Nat.add_assoc]
 have hcell':∀ k,k < len * sz→∃ v,W.cell? ⟨blk,off + k,none⟩=some v:=fun k hk=>by
  have h1:k / sz < len:=Nat.div_lt_of_lt_mul (by rw [Nat.mul_comm]; exact hk)
  have h2:k % sz < sz:=Nat.mod_lt _ hpos
  obtain ⟨v,hv⟩:=hcell (k / sz) (k % sz) h1 h2
  rw [hadd,Nat.div_add_mod'] at hv
  exact ⟨v,hv⟩
 have hlen2:(l.map f).length=len:=by simp [hl]
 have:=Rel.sl (E:=E0 (ny W)) (w:=W) sz (l.map f) blk off m (fun k=>(W.cell? ⟨blk,off + k,none⟩).getD Go.undef) ho (by rw [hlen2]; exact hlc)
  (fun x hx=>by obtain ⟨b,_,rfl⟩:=List.mem_map.1 hx; exact hc b)
  (fun k hk=>by
   rw [hlen2] at hk
   obtain ⟨v,hv⟩:=hcell' k hk
   simp only [hv,Option.getD_some])
  (fun i j x y hx hy=>by
   rw [List.getElem?_map,Option.map_eq_some_iff] at hx
   obtain ⟨a',ha',rfl⟩:=hx
   obtain ⟨_,cs',h1,h2⟩:=hq i a' ha'
   have hj:j < sz:=by
    have:=(List.getElem?_eq_some_iff.1 hy).1
    rwa [hc] at this
   have hi:i < len:=by
    have:=(List.getElem?_eq_some_iff.1 ha').1
    omega
   unfold World.cells? at h1
   rw [if_pos (Nat.zero_le _)] at h1
   have h3:=mapM_some_get h1 j j (by simp [hj])
   have h4:j < cs'.length:=by
    have:=mapM_some_length h1
    simp at this; omega
   rw [hadd] at h3
   have h5:cs'[j]?=some cs'[j]:=by simp [h4]
   rw [h5] at h3
   simp only [h3,Option.getD_some]
   exact h2.2 j y _ hy h5)
 rw [hlen2] at this
 exact this
def oN (enc:TypeId × Value→H) (P:Program) (W:World) (fs:List Field) (off:Nat) {α:Type} (g:α→List AV) (good:α→Prop):Prop :=
 ∀ (n tot:Nat) (cs:List Value) (ys:List (DataW H × List MemPlace)),ys.length=fs.length→(∀ (i:Nat) (f:Field),fs[i]?=some f→DataW.trod enc P W 0 (fun _=>true) true n f.type ((cs.drop f.offset).take (P.cellsOf f.type))=ys[i]?) →
  (∀ k ∈ DataW.weightsEach P (fs.map fun f:Field=>f.type) (ys.map (·.1)),k ≤ reachBytes)→cs.length=tot→tot=off + (fs.map fun f:Field=>P.cellsOf f.type).sum→∃ a:α,good a∧bV (E0 (ny W)) W (g a) (cs.drop off)
theorem nf {off:Nat}:oN enc P W [] off (fun _:Unit=>[]) (fun _=>True):=fun n tot cs ys _ _ _ h1 h2=>by
 refine ⟨(),trivial,?_⟩
 rw [List.drop_eq_nil_of_le (by simp at h2; omega)]
 exact ⟨rfl,fun i a b h=>by simp at h⟩
theorem gO {fd:Field} {fs:List Field} {off off':Nat} {α β:Type} {f:α→AV} {g:β→List AV} {good:α→Prop} {good':β→Prop} (ho:fd.offset=off) (ho':off + P.cellsOf fd.type=off')
    (h:cS enc P W fd.type f good) (h':oN enc P W fs off' g good'):oN enc P W (fd :: fs) off (fun a:α × β=>(f a.1).cells ++ g a.2) (fun a=>good a.1∧good' a.2):=fun n tot cs ys hl hy hw h1 h2=>by
 obtain ⟨y,ys,rfl⟩:∃ y ys',ys=y :: ys':=by
  cases ys with
  | nil=>simp at hl
  | cons y ys=>exact ⟨y,ys,rfl⟩
 have hy0:=hy 0 fd rfl
 simp only [List.getElem?_cons_zero] at hy0
 rw [ho] at hy0
 simp only [List.map_cons,DataW.weightsEach] at hw
 obtain ⟨a,g1,g2⟩:=h n _ y hy0 (fun k hk=>hw k (List.mem_append_left _ hk))
 simp only [List.map_cons,List.sum_cons] at h2
 obtain ⟨b,g3,g4⟩:=h' n tot cs ys (by simpa using hl) (fun i f hf=>by
  have:=hy (i + 1) f (by simpa using hf)
  simpa using this) (fun k hk=>hw k (List.mem_append_right _ hk)) h1 (by omega)
 refine ⟨(a,b),⟨g1,g3⟩,?_⟩
 have e:cs.drop off=(cs.drop off).take (P.cellsOf fd.type) ++ cs.drop off':=by
  rw [← ho',← List.drop_drop,List.take_append_drop]
 rw [e]
 exact bV.app g2 g4
theorem iS {t:TypeId} {fs:Array Field} {α:Type} {g:α→List AV} {good:α→Prop} (ht:P.underlying t=some (.struct fs)) (hsum:P.cellsOf t=(fs.toList.map fun f:Field=>P.cellsOf f.type).sum)
    (h:oN enc P W fs.toList 0 g good):cS enc P W t (fun a=>.agg (g a)) good:=fun n cs x hx hw=>by
 obtain ⟨ys,n',rfl,rfl,hl,hs,hy⟩:=DataW.trod_struct ht hx
 obtain ⟨a,g1,g2⟩:=h n' _ cs ys (by rw [hs]; simp) (fun i f hf=>hy i f (by simpa using hf)) (fun k hk=>hw k (by
  simp only [DataW.weights,ht]; exact hk)) hl (by rw [Nat.zero_add,hsum])
 exact ⟨a,g1,by rw [List.drop_zero] at g2; exact g2⟩
theorem cS.map {t:TypeId} {α β:Type} {f:α→AV} {good:α→Prop} {f':β→AV} {good':β→Prop} (h:cS enc P W t f good) (φ:α→β) (hg:∀ a,good a→good' (φ a)) (hf:∀ a,good a→(f' (φ a)).cells=(f a).cells):cS enc P W t f' good':=fun n cs x hx hw=>by
 obtain ⟨a,h1,h2⟩:=h n cs x hx hw
 exact ⟨φ a,hg a h1,by rw [hf a h1]; exact h2⟩
theorem cS.at {t u:TypeId} {α:Type} {f:α→AV} {good:α→Prop} (e:t=u) (h:cS enc P W u f good):cS enc P W t f good:=e ▸ h
theorem cS.argA {t:TypeId} {α:Type} {f:α→AV} {good:α→Prop} (h:cS enc P W t f good) {r:Reach} {base:Nat} {v:Value} {d:DataW H} {ps:List MemPlace} (ht:jl P t=true) (hf:∀ a,∃ cs,f a=.agg cs)
    (hval:Value.okWide P W r base t v) (hd:DataW.Trod enc P W 0 (fun _=>true) true t v d ps) (hw:∀ k ∈ d.weights P t,k ≤ reachBytes):∃ a,good a∧Rel (E0 (ny W)) W (f a) v:=by
 obtain ⟨n,hn⟩:=hd
 obtain ⟨a,h1,h2⟩:=h n _ _ hn hw
 refine ⟨a,h1,?_⟩
 obtain ⟨cs,hcs,_⟩:∃ cs,v=.agg cs∧True:=by
  unfold Value.okWide at hval
  unfold jl at ht
  split at hval
  ·obtain ⟨cs,h,_⟩:=hval; exact ⟨cs,h,trivial⟩
  ·obtain ⟨cs,h,_⟩:=hval; exact ⟨cs,h,trivial⟩
  ·rename_i k1 k2
   revert ht
   cases hu:P.underlying t with
   | none=>simp
   | some u =>
    cases u with
    | struct fs=>exact absurd hu (k1 fs)
    | array m e=>exact absurd hu (k2 m e)
    | _=>simp
 subst hcs
 obtain ⟨xs,hx⟩:=hf a
 rw [hx] at h2 ⊢
 exact .agg xs cs.toList h2.1 h2.2
theorem cS.arg1 {t:TypeId} {α:Type} {f:α→AV} {good:α→Prop} (h:cS enc P W t f good) {v:Value} {d:DataW H} {ps:List MemPlace} (hf:∀ a,(f a).cells=[f a]) (hv:v.cells=#[v])
    (hd:DataW.Trod enc P W 0 (fun _=>true) true t v d ps) (hw:∀ k ∈ d.weights P t,k ≤ reachBytes):∃ a,good a∧Rel (E0 (ny W)) W (f a) v:=by
 obtain ⟨n,hn⟩:=hd
 obtain ⟨a,h1,h2⟩:=h n _ _ hn hw
 rw [hf,hv] at h2
 exact ⟨a,h1,h2.2 0 _ _ rfl rfl⟩
theorem nQ {t:TypeId} {r:Reach} {base:Nat} {v:Value} (ht:jl P t=false) (hval:Value.okWide P W r base t v):v.cells=#[v]:=by
 cases v <;> try rfl
 rename_i cs
 exfalso
 unfold Value.okWide at hval
 unfold jl at ht
 cases hu:P.underlying t with
 | none=>simp only [hu,Cell.okWide,Cell.ok] at hval
 | some u =>
  rw [hu] at ht
  cases u <;> simp only [hu,Cell.okWide,Cell.ok] at hval <;> simp at ht
theorem iq (hl:laidOutB P=true) {W':World} (hb:Below W.heap.size W W') {sp:Nat→Bool}:∀ {ts:List TypeId} {vs:List Value} {ds:List (DataW H)} {ps:List MemPlace},(∀ t ∈ ts,P.readableRec t=true∧t < P.types.size) →
    DataW.TrodAll enc P W 0 (fun _=>true) true ts vs ds ps→(∀ p ∈ ps,p.block < W.heap.size)→(∀ p ∈ ps,sp p.block=true)→DataW.TrodAll enc P W' 0 sp true ts vs ds ps
 | [],[],[],ps,_,h,_,_=>h
 | t :: ts,v :: vs,d :: ds,ps,hr,⟨p,q,h1,h2,e⟩,hlt,hsp=>by
  subst e
  exact ⟨p,q,WideElems.Trod_stays hl (hr t (List.mem_cons_self ..)).1 (hr t (List.mem_cons_self ..)).2 h1 (fun x hx=>hb.same (hlt x (List.mem_append_left _ hx))) (fun x hx=>hsp x (List.mem_append_left _ hx)),
   iq hl hb (fun t ht=>hr t (List.mem_cons_of_mem _ ht)) h2 (fun x hx=>hlt x (List.mem_append_right _ hx)) (fun x hx=>hsp x (List.mem_append_right _ hx)),rfl⟩
 | [],_ :: _,_,_,_,h,_,_=>h.elim
 | [],[],_ :: _,_,_,h,_,_=>h.elim
 | _ :: _,[],_,_,_,h,_,_=>h.elim
 | _ :: _,_ :: _,[],_,_,h,_,_=>h.elim
theorem gQ:∀ {ts:List TypeId} {ds:List (DataW H)} {i:Nat} {t:TypeId} {d:DataW H},ts[i]?=some t→ds[i]?=some d→∀ k ∈ d.weights P t,k ∈ DataW.weightsEach P ts ds
 | t :: ts,d :: ds,0,_,_,h1,h2,k,hk=>by
  simp at h1 h2; subst h1 h2
  unfold DataW.weightsEach
  exact List.mem_append_left _ hk
 | t :: ts,d :: ds,i + 1,_,_,h1,h2,k,hk=>by
  unfold DataW.weightsEach
  exact List.mem_append_right _ (gQ (ts:=ts) (ds:=ds) (by simpa using h1) (by simpa using h2) k hk)
 | [],_,i,_,_,h1,_,_,_=>by simp at h1
 | _ :: _,[],i,_,_,_,h2,_,_=>by simp at h2
end
end Go.Abs
namespace Go.Proofs.YtpfkjcjgdilkkaaGreat
open Go Go.Abs Go.Abs.C2 Go.Abs.Ins Go.Abs.Opd Go.Abs.TK Go.Abs.MK
def cO (d:Nat) (i:Ins):Op2:=Op2.mk (some d) none i
def cG (d g:Nat) (b:Bool) (i:Ins):Op2:=Op2.mk (some d) (some (g,b)) i
def cN (k:Int):Opd:=Opd.c (AV.int IntKind.i64 k)
def cM (n:Nat):Ins:=Ins.mov (Opd.t n)
def cD (n:Nat):Ins:=Ins.ld1 (Opd.t n)
def cF (n:Nat):Opd:=Opd.c (AV.func n [])
def cB (o:BinOp) (x y:Opd):Ins:=Ins.bin o false false x y
def ax:Opd:=Opd.c (AV.bool false)
def aN:Opd:=Opd.c (AV.bool true)
theorem follows:Tryz.prog.follows .mixedOrders=true:=by rfl
def b3:F2:=(F2.mk 131 [RV.t 6] ((ops 0 [cO 3 (box (t 0)),cO 6 (mov ax)]).seq (((ops 0 [cO 22 (call (cF 5) []),cO 23 (un UnOp.not (t 22))]).seq (C2.cond (t 23) ((ops 0 [cO 6 (mov ax)]).seq ret) skip)).seq (((ops 0 [cO 24 (ldn 1 (t 3)),cO 25 (call (cF 6) [t 24]),cO 26 (un UnOp.not (t 25)),cO 27 (cM 26),cG 28 27 false (cM 1),cG 29 27 false (lenS (t 28)),cG 30 27 false (cB .gtr (t 29) (cN 40)),cO 31 (pick (t 27) aN (t 30)),cO 32 (cM 31),cG 33 32 false (fa 0 (t 3)),cG 34 32 false (cD 33),cG 35 32 false (lenS (t 34)),cG 36 32 false (cB .eql (t 35) (cN 0)),cO 37 (pick (t 32) aN (t 36))]).seq (C2.cond (t 37) ((ops 0 [cO 6 (mov aN)]).seq ret) skip)).seq ((ops 0 [cO 39 (ldn 1 (t 3)),cO 40 (cM 1),cO 41 (call (cF 7) [t 39,t 40]),cO 38 (cM 41),cO 42 (ext (t 38) 0),cO 43 (ext (t 38) 1),cO 7 (alloc (AV.agg [AV.esl,AV.esl])),Op2.mk none none (Ins.st 2 (t 7) (t 42)),cO 8 (cM 43)]).seq ((ops 0 [cO 45 (ldn 2 (t 7)),cO 46 (ldn 1 (t 3)),cO 47 (call (cF 8) [t 45,t 46]),cO 44 (cM 47),cO 48 (ext (t 44) 0),cO 49 (ext (t 44) 1),cO 9 (alloc (AV.agg [AV.esl])),Op2.mk none none (Ins.st 1 (t 9) (t 48)),cO 10 (cM 49)]).seq (((ops 0 [cO 50 (cM 8),cO 51 (cM 10),cO 52 (cB .add (t 50) (t 51)),cO 53 (cB .neq (t 52) (cN 0))]).seq (C2.cond (t 53) ((ops 0 [cO 6 (mov ax)]).seq ret) skip)).seq ((ops 1 [cO 54 (fa 0 (t 3)),cO 55 (cD 54),cO 56 (cM 2),cO 57 (conv IntKind.i64 (t 56)),cO 58 (fa 0 (t 3)),cO 59 (cD 58),cO 60 (lenS (t 59)),cO 61 (cB .rem (t 57) (t 60)),cO 62 (ixaS 1 (t 55) (t 61)),cO 63 (cD 62),cO 11 (cM 63)]).seq (((ops 0 [cO 64 (cM 11),cO 65 (lenS (t 64)),cO 66 (mov (cN 0))]).seq (block 0 ((ops 0 [cO 67 (cB .lss (t 66) (t 65))]).seq ((C2.cond (t 67) skip (exit 0)).seq ((block 1 ((ops 0 [cO 68 (cM 66),cO 12 (cM 68)]).seq ((ops 0 [cO 69 (cM 11),cO 70 (cM 12),cO 71 (cB .add (t 70) (cN 1)),cO 72 (sls 2 (t 69) none (some (t 71)) none),cO 13 (cM 72)]).seq ((ops 0 [cO 74 (ldn 2 (t 7)),cO 75 (cM 13),cO 76 (call (cF 9) [t 74,t 75]),cO 73 (cM 76),cO 77 (ext (t 73) 0),cO 78 (ext (t 73) 1),cO 14 (cM 77),cO 15 (cM 78)]).seq ((ops 0 [cO 80 (ldn 1 (t 3)),cO 81 (cM 13),cO 82 (call (cF 10) [t 80,t 81]),cO 79 (cM 82),cO 83 (ext (t 79) 0),cO 84 (ext (t 79) 1),cO 16 (alloc (AV.agg [AV.esl])),Op2.mk none none (Ins.st 1 (t 16) (t 83)),cO 17 (cM 84)]).seq (((ops 0 [cO 85 (cM 15),cO 86 (cM 17),cO 87 (cB .add (t 85) (t 86)),cO 88 (cB .neq (t 87) (cN 0))]).seq (C2.cond (t 88) ((ops 0 [cO 6 (mov ax)]).seq ret) skip)).seq ((ops 0 [cO 90 (ldn 1 (t 9)),cO 91 (cM 14),cO 92 (call (cF 10) [t 90,t 91]),cO 89 (cM 92),cO 93 (ext (t 89) 0),cO 94 (ext (t 89) 1),cO 18 (alloc (AV.agg [AV.esl])),Op2.mk none none (Ins.st 1 (t 18) (t 93)),cO 15 (cM 94)]).seq ((ops 0 [cO 96 (ldn 2 (t 7)),cO 97 (ldn 1 (t 16)),cO 98 (ldn 1 (t 18)),cO 99 (call (cF 11) [t 96,t 97,t 98]),cO 95 (cM 99),cO 100 (ext (t 95) 0),cO 101 (ext (t 95) 1),cO 19 (cM 100),cO 17 (cM 101)]).seq (((ops 0 [cO 102 (cM 15),cO 103 (cM 17),cO 104 (cB .add (t 102) (t 103)),cO 105 (cB .neq (t 104) (cN 0)),cO 106 (cM 105),cG 107 106 false (cM 19),cG 108 106 false (un UnOp.not (t 107)),cO 109 (pick (t 106) aN (t 108))]).seq (C2.cond (t 109) ((ops 0 [cO 6 (mov ax)]).seq ret) skip)).seq ((ops 0 [cO 111 (ldn 2 (t 7)),cO 112 (cM 11),cO 113 (call (cF 9) [t 111,t 112]),cO 110 (cM 113),cO 114 (ext (t 110) 0),cO 115 (ext (t 110) 1),cO 20 (cM 114),cO 15 (cM 115)]).seq ((ops 0 [cO 117 (cM 14),cO 118 (cM 20),cO 119 (call (cF 12) [t 117,t 118]),cO 116 (cM 119),cO 120 (ext (t 116) 0),cO 121 (ext (t 116) 1),cO 21 (cM 120),cO 17 (cM 121)]).seq ((ops 0 [cO 122 (cM 15),cO 123 (cM 17),cO 124 (cB .add (t 122) (t 123)),cO 125 (cB .neq (t 124) (cN 0)),cO 126 (cM 125),cG 127 126 false (cM 21),cG 128 126 false (un UnOp.not (t 127)),cO 129 (pick (t 126) aN (t 128))]).seq (C2.cond (t 129) ((ops 0 [cO 6 (mov ax)]).seq ret) skip))))))))))))).seq (ops 0 [cO 130 (cB .add (t 66) (cN 1)),cO 66 (cM 130)])))).loop)).seq ((ops 0 [cO 6 (mov aN)]).seq ret))))))))))
theorem is3:Is Tryz.prog 3 b3:=Is.mk' Tryz.func3 (by kernel_rfl)
def b5:F2:=(F2.mk 77 [RV.t 0] ((ops 0 [cO 0 (mov ax)]).seq ((ops 0 [cO 10 (bld [AV.int IntKind.i64 (0),AV.int IntKind.i64 (0)] []),cO 11 (bld [AV.int IntKind.i64 (0),AV.int IntKind.i64 (0)] [(0,1,cN ((1)))]),cO 12 (bld [AV.int IntKind.i64 (0),AV.int IntKind.i64 (0)] [(0,1,cN ((2)))]),cO 1 (alloc (AV.agg [AV.int IntKind.i64 (0),AV.int IntKind.i64 (0)])),cO 2 (alloc (AV.agg [AV.int IntKind.i64 (0),AV.int IntKind.i64 (0)])),cO 3 (alloc (AV.agg [AV.int IntKind.i64 (0),AV.int IntKind.i64 (0)])),Op2.mk none none (Ins.st 2 (t 1) (t 10)),Op2.mk none none (Ins.st 2 (t 2) (t 11)),Op2.mk none none (Ins.st 2 (t 3) (t 12))]).seq ((ops 0 [cO 13 (ldn 2 (t 1)),cO 14 (ldn 2 (t 2)),cO 15 (ldn 2 (t 3)),cO 16 (bldS 2 3 [AV.int IntKind.i64 (0),AV.int IntKind.i64 (0)] [(0,2,t 13),(2,2,t 14),(4,2,t 15)]),cO 17 (ldn 2 (t 1)),cO 18 (ldn 2 (t 2)),cO 19 (ldn 2 (t 1)),cO 20 (bldS 2 3 [AV.int IntKind.i64 (0),AV.int IntKind.i64 (0)] [(0,2,t 17),(2,2,t 18),(4,2,t 19)]),cO 21 (bld [AV.esl,AV.esl] [(0,1,t 16),(1,1,t 20)]),cO 4 (alloc (AV.agg [AV.esl,AV.esl])),Op2.mk none none (Ins.st 2 (t 4) (t 21))]).seq ((ops 0 [cO 22 (ldn 2 (t 1)),cO 23 (ldn 2 (t 2)),cO 24 (ldn 2 (t 3)),cO 25 (bldS 2 3 [AV.int IntKind.i64 (0),AV.int IntKind.i64 (0)] [(0,2,t 22),(2,2,t 23),(4,2,t 24)]),cO 26 (bldS 1 1 [AV.esl] [(0,1,t 25)]),cO 27 (bld [AV.esl] [(0,1,t 26)]),cO 5 (alloc (AV.agg [AV.esl])),Op2.mk none none (Ins.st 1 (t 5) (t 27))]).seq ((ops 0 [cO 29 (ldn 2 (t 4)),cO 30 (ldn 1 (t 5)),cO 31 (call (cF 8) [t 29,t 30]),cO 28 (cM 31),cO 32 (ext (t 28) 0),cO 33 (ext (t 28) 1),cO 6 (alloc (AV.agg [AV.esl])),Op2.mk none none (Ins.st 1 (t 6) (t 32)),cO 7 (cM 33)]).seq ((ops 0 [cO 35 (ldn 1 (t 5)),cO 36 (ldn 2 (t 1)),cO 37 (bldS 2 1 [AV.int IntKind.i64 (0),AV.int IntKind.i64 (0)] [(0,2,t 36)]),cO 38 (call (cF 19) [t 35,t 37]),cO 34 (cM 38),cO 39 (ext (t 34) 0),cO 40 (ext (t 34) 1),cO 8 (alloc (AV.agg [AV.esl])),Op2.mk none none (Ins.st 1 (t 8) (t 39)),cO 9 (cM 40)]).seq ((mixS 1 [cO 41 (cM 7),cO 42 (cM 9),cO 43 (cB .add (t 41) (t 42)),cO 44 (cB .eql (t 43) (cN 0)),cO 45 (cM 44),cG 46 45 true (fa 0 (t 6)),cG 47 45 true (cD 46),cG 48 45 true (lenS (t 47)),cG 49 45 true (cB .eql (t 48) (cN 1)),cO 50 (pick (t 45) (t 49) ax),cO 51 (cM 50),cG 52 51 true (fa 0 (t 6)),cG 53 51 true (cD 52),cG 54 51 true (ixaS 1 (t 53) (cN 0)),cG 55 51 true (cD 54),cG 56 51 true (ldn 2 (t 1)),cG 57 51 true (ldn 2 (t 2)),cG 58 51 true (bldS 2 2 [AV.int IntKind.i64 (0),AV.int IntKind.i64 (0)] [(0,2,t 56),(2,2,t 57)]),cG 59 51 true (call (cF 20) [t 55,t 58]),cO 60 (pick (t 51) (t 59) ax),cO 61 (cM 60),cG 62 61 true (fa 0 (t 8)),cG 63 61 true (cD 62),cG 64 61 true (lenS (t 63)),cG 65 61 true (cB .eql (t 64) (cN 1)),cO 66 (pick (t 61) (t 65) ax),cO 67 (cM 66),cG 68 67 true (fa 0 (t 8)),cG 69 67 true (cD 68),cG 70 67 true (ixaS 1 (t 69) (cN 0)),cG 71 67 true (cD 70),cG 72 67 true (ldn 2 (t 2)),cG 73 67 true (ldn 2 (t 3)),cG 74 67 true (bldS 2 2 [AV.int IntKind.i64 (0),AV.int IntKind.i64 (0)] [(0,2,t 72),(2,2,t 73)]),cG 75 67 true (call (cF 20) [t 71,t 74]),cO 76 (pick (t 67) (t 75) ax),cO 0 (cM 76)] [(0,0),(1,0),(2,0),(3,0),(4,0),(5,0),(6,0),(7,0),(8,0),(9,0),(10,0),(11,0),(12,0),(13,0),(14,0),(15,0),(16,0),(17,1),(18,1),(19,0),(20,0),(21,0),(22,0),(23,0),(24,0),(25,0),(26,0),(27,0),(28,0),(29,0),(30,0),(31,0),(32,0),(33,1),(34,2),(35,0),(36,0)]).seq ret))))))))
theorem is5:Is Tryz.prog 5 b5:=Is.mk' Tryz.func5 (by kernel_rfl)
def b6:F2:=(F2.mk 27 [RV.t 2] ((ops 0 [cO 1 (box (t 0)),cO 2 (mov ax)]).seq ((ops 0 [cO 6 (ldn 1 (t 1)),cO 7 (call (cF 21) [t 6]),cO 5 (cM 7),cO 8 (ext (t 5) 0),cO 9 (ext (t 5) 1),cO 3 (cM 8),cO 4 (cM 9)]).seq ((ops 0 [cO 10 (ldn 1 (t 1)),cO 11 (call (cF 22) [t 10]),cO 12 (cM 11),cG 13 12 true (ldn 1 (t 1)),cG 14 12 true (call (cF 23) [t 13]),cG 15 12 true (cB .eql (t 14) (cN 0)),cO 16 (pick (t 12) (t 15) ax),cO 17 (cM 16),cG 18 17 true (fa 0 (t 1)),cG 19 17 true (cD 18),cG 20 17 true (lenS (t 19)),cG 21 17 true (cB .leq (t 20) (cN 12)),cO 22 (pick (t 17) (t 21) ax),cO 23 (cM 22),cG 24 23 true (cM 3),cG 25 23 true (cB .leq (t 24) (cN 3)),cO 26 (pick (t 23) (t 25) ax),cO 2 (cM 26)]).seq ret))))
theorem is6:Is Tryz.prog 6 b6:=Is.mk' Tryz.func6 (by kernel_rfl)
def b7:F2:=(F2.mk 48 [RV.cn 4 2,RV.t 5] ((ops 0 [cO 2 (box (t 0)),cO 4 (alloc (AV.agg [AV.esl,AV.esl])),cO 5 (mov (cN 0))]).seq ((ops 0 [cO 12 (ldn 1 (t 2)),cO 13 (call (cF 24) [t 12]),cO 11 (cM 13),cO 14 (ext (t 11) 0),cO 15 (ext (t 11) 1),cO 6 (cM 14),cO 7 (cM 15)]).seq ((ops 0 [cO 16 (cM 6),cO 17 (bld [AV.esl,AV.esl] [(0,1,t 16)]),cO 8 (alloc (AV.agg [AV.esl,AV.esl])),Op2.mk none none (Ins.st 2 (t 8) (t 17))]).seq (((ops 0 [cO 18 (cM 6),cO 19 (lenS (t 18)),cO 20 (mov (cN 0))]).seq (block 0 ((ops 0 [cO 21 (cB .lss (t 20) (t 19))]).seq ((C2.cond (t 21) skip (exit 0)).seq ((block 1 ((ops 0 [cO 22 (cM 20),cO 9 (cM 22)]).seq ((ops 0 [cO 10 (mov (cN 0))]).seq (((ops 0 [cO 23 (cM 1),cO 24 (lenS (t 23)),cO 25 (cB .gtr (t 24) (cN 0))]).seq (C2.cond (t 25) (ops 0 [cO 26 (cM 1),cO 27 (cM 9),cO 28 (cM 1),cO 29 (lenS (t 28)),cO 30 (cB .rem (t 27) (t 29)),cO 31 (ixaS 1 (t 26) (t 30)),cO 32 (cD 31),cO 33 (conv IntKind.i64 (t 32)),cO 10 (cM 33)]) skip)).seq (ops 0 [cO 34 (fa 1 (t 8)),cO 35 (cD 34),cO 36 (cM 10),cO 37 (cB .rem (t 36) (cN 3)),cO 38 (cM 10),cO 39 (cB .quo (t 38) (cN 3)),cO 40 (cB .rem (t 39) (cN 3)),cO 41 (bld [AV.int IntKind.i64 (0),AV.int IntKind.i64 (0)] [(0,1,t 37),(1,1,t 40)]),cO 42 (bldS 2 1 [AV.int IntKind.i64 (0),AV.int IntKind.i64 (0)] [(0,2,t 41)]),cO 43 (app 2 16 (t 35) (t 42)),cO 44 (fa 1 (t 8)),Op2.mk none none (Ins.st 1 (t 44) (t 43))]))))).seq (ops 0 [cO 45 (cB .add (t 20) (cN 1)),cO 20 (cM 45)])))).loop)).seq ((ops 0 [cO 46 (ldn 2 (t 8)),cO 47 (cM 7),Op2.mk none none (Ins.st 2 (t 4) (t 46)),cO 5 (cM 47)]).seq ret))))))
theorem is7:Is Tryz.prog 7 b7:=Is.mk' Tryz.func7 (by kernel_rfl)
def b8:F2:=(F2.mk 39 [RV.cn 4 1,RV.t 5] ((ops 0 [cO 2 (box (t 0)),cO 3 (box (t 1)),cO 4 (alloc (AV.agg [AV.esl])),cO 5 (mov (cN 0))]).seq ((ops 0 [cO 12 (ldn 2 (t 2)),cO 13 (call (cF 25) [t 12]),cO 11 (cM 13),cO 14 (ext (t 11) 0),cO 15 (ext (t 11) 1),cO 6 (cM 14),cO 7 (cM 15)]).seq (((ops 0 [cO 16 (cM 7),cO 17 (cB .neq (t 16) (cN 0))]).seq (C2.cond (t 17) ((ops 0 [cO 18 (bld [AV.esl] []),cO 19 (cM 7),Op2.mk none none (Ins.st 1 (t 4) (t 18)),cO 5 (cM 19)]).seq ret) skip)).seq (((ops 0 [cO 20 (ldn 1 (t 3)),cO 21 (call (cF 26) [t 20]),cO 8 (cM 21)]).seq ((ops 0 [cO 22 (cM 8),cO 23 (cB .neq (t 22) (cN 0))]).seq (C2.cond (t 23) ((ops 0 [cO 24 (bld [AV.esl] []),cO 25 (cM 8),Op2.mk none none (Ins.st 1 (t 4) (t 24)),cO 5 (cM 25)]).seq ret) skip))).seq ((ops 0 [cO 27 (cM 6),cO 28 (ldn 1 (t 3)),cO 29 (call (cF 27) [t 27,t 28]),cO 26 (cM 29),cO 30 (ext (t 26) 0),cO 31 (ext (t 26) 1),cO 9 (cM 30),cO 10 (cM 31)]).seq (((ops 0 [cO 32 (cM 10),cO 33 (un UnOp.not (t 32))]).seq (C2.cond (t 33) ((ops 0 [cO 34 (bld [AV.esl] []),Op2.mk none none (Ins.st 1 (t 4) (t 34)),cO 5 (mov (cN 6))]).seq ret) skip)).seq ((ops 0 [cO 35 (cM 9),cO 36 (call (cF 28) [t 35]),cO 37 (ext (t 36) 0),cO 38 (ext (t 36) 1),Op2.mk none none (Ins.st 1 (t 4) (t 37)),cO 5 (cM 38)]).seq ret))))))))
theorem is8:Is Tryz.prog 8 b8:=Is.mk' Tryz.func8 (by kernel_rfl)
def b9:F2:=(F2.mk 33 [RV.t 4,RV.t 5] ((ops 0 [cO 2 (box (t 0)),cO 4 (mov (c AV.esl)),cO 5 (mov (cN 0))]).seq ((ops 0 [cO 12 (ldn 2 (t 2)),cO 13 (call (cF 25) [t 12]),cO 11 (cM 13),cO 14 (ext (t 11) 0),cO 15 (ext (t 11) 1),cO 6 (cM 14),cO 7 (cM 15)]).seq (((ops 0 [cO 16 (cM 7),cO 17 (cB .neq (t 16) (cN 0))]).seq (C2.cond (t 17) ((ops 0 [cO 18 (cM 7),cO 4 (mov (c AV.esl)),cO 5 (cM 18)]).seq ret) skip)).seq (((ops 0 [cO 19 (cM 1),cO 20 (call (cF 29) [t 19]),cO 8 (cM 20)]).seq ((ops 0 [cO 21 (cM 8),cO 22 (cB .neq (t 21) (cN 0))]).seq (C2.cond (t 22) ((ops 0 [cO 23 (cM 8),cO 4 (mov (c AV.esl)),cO 5 (cM 23)]).seq ret) skip))).seq ((ops 0 [cO 25 (cM 6),cO 26 (cM 1),cO 27 (call (cF 30) [t 25,t 26]),cO 24 (cM 27),cO 28 (ext (t 24) 0),cO 29 (ext (t 24) 1),cO 9 (cM 28),cO 10 (cM 29)]).seq (((ops 0 [cO 30 (cM 10),cO 31 (un UnOp.not (t 30))]).seq (C2.cond (t 31) ((ops 0 [cO 4 (mov (c AV.esl)),cO 5 (mov (cN 6))]).seq ret) skip)).seq ((ops 0 [cO 32 (cM 9),cO 4 (cM 32),cO 5 (mov (cN 0))]).seq ret))))))))
theorem is9:Is Tryz.prog 9 b9:=Is.mk' Tryz.func9 (by kernel_rfl)
def b10:F2:=(F2.mk 24 [RV.cn 4 1,RV.t 5] ((ops 0 [cO 2 (box (t 0)),cO 4 (alloc (AV.agg [AV.esl])),cO 5 (mov (cN 0))]).seq (((ops 0 [cO 8 (ldn 1 (t 2)),cO 9 (cM 1),cO 10 (call (cF 31) [t 8,t 9]),cO 6 (cM 10)]).seq ((ops 0 [cO 11 (cM 6),cO 12 (cB .neq (t 11) (cN 0))]).seq (C2.cond (t 12) ((ops 0 [cO 13 (bld [AV.esl] []),cO 14 (cM 6),Op2.mk none none (Ins.st 1 (t 4) (t 13)),cO 5 (cM 14)]).seq ret) skip))).seq ((ops 0 [cO 15 (ldn 1 (t 2)),cO 16 (cM 1),cO 17 (call (cF 32) [t 15,t 16]),cO 7 (cM 17)]).seq (((ops 0 [cO 18 (cM 7),cO 19 (lenS (t 18)),cO 20 (cB .eql (t 19) (cN 0))]).seq (C2.cond (t 20) ((ops 0 [cO 21 (bld [AV.esl] []),Op2.mk none none (Ins.st 1 (t 4) (t 21)),cO 5 (mov (cN 6))]).seq ret) skip)).seq ((ops 0 [cO 22 (cM 7),cO 23 (call (cF 33) [t 22]),Op2.mk none none (Ins.st 1 (t 4) (t 23)),cO 5 (mov (cN 0))]).seq ret))))))
theorem Bq:Is Tryz.prog 10 b10:=Is.mk' Tryz.func10 (by kernel_rfl)
def b11:F2:=(F2.mk 50 [RV.t 6,RV.t 7] ((ops 0 [cO 3 (box (t 0)),cO 4 (box (t 1)),cO 5 (box (t 2)),cO 6 (mov ax),cO 7 (mov (cN 0))]).seq ((ops 0 [cO 17 (ldn 2 (t 3)),cO 18 (call (cF 25) [t 17]),cO 16 (cM 18),cO 19 (ext (t 16) 0),cO 20 (ext (t 16) 1),cO 8 (cM 19),cO 9 (cM 20)]).seq (((ops 0 [cO 21 (cM 9),cO 22 (cB .neq (t 21) (cN 0))]).seq (C2.cond (t 22) ((ops 0 [cO 23 (cM 9),cO 6 (mov ax),cO 7 (cM 23)]).seq ret) skip)).seq (((ops 0 [cO 24 (ldn 1 (t 4)),cO 25 (ldn 1 (t 5)),cO 26 (bldS 1 2 [AV.esl] [(0,1,t 24),(1,1,t 25)]),cO 27 (lenS (t 26)),cO 28 (mov (cN 0))]).seq (block 0 ((ops 0 [cO 29 (cB .lss (t 28) (t 27))]).seq ((C2.cond (t 29) skip (exit 0)).seq ((block 1 ((ops 0 [cO 30 (ixaS 1 (t 26) (t 28)),cO 31 (ldn 1 (t 30)),cO 11 (alloc (AV.agg [AV.esl])),Op2.mk none none (Ins.st 1 (t 11) (t 31))]).seq ((ops 0 [cO 32 (ldn 1 (t 11)),cO 33 (call (cF 26) [t 32]),cO 12 (cM 33)]).seq ((ops 0 [cO 34 (cM 12),cO 35 (cB .neq (t 34) (cN 0))]).seq (C2.cond (t 35) ((ops 0 [cO 36 (cM 12),cO 6 (mov ax),cO 7 (cM 36)]).seq ret) skip))))).seq (ops 0 [cO 37 (cB .add (t 28) (cN 1)),cO 28 (cM 37)])))).loop)).seq ((ops 0 [cO 39 (cM 8),cO 40 (ldn 1 (t 4)),cO 41 (call (cF 27) [t 39,t 40]),cO 38 (cM 41),cO 42 (ext (t 38) 0),cO 43 (ext (t 38) 1),cO 13 (cM 42),cO 14 (cM 43)]).seq (((ops 0 [cO 44 (cM 14),cO 45 (un UnOp.not (t 44))]).seq (C2.cond (t 45) ((ops 0 [cO 6 (mov ax),cO 7 (mov (cN 6))]).seq ret) skip)).seq ((ops 0 [cO 15 (alloc AV.nilf),Op2.mk none none (Ins.st 1 (t 15) (cF 34))]).seq ((ops 0 [cO 46 (cM 13),cO 47 (mkfn 39 [t 5,t 15]),cO 48 (call (cF 38) [t 46,t 47]),cO 49 (un UnOp.not (t 48)),cO 6 (cM 49),cO 7 (mov (cN 0))]).seq ret)))))))))
theorem Bj:Is Tryz.prog 11 b11:=Is.mk' Tryz.func11 (by kernel_rfl)
def b12:F2:=(F2.mk 21 [RV.t 4,RV.t 5] ((ops 0 [cO 4 (mov ax),cO 5 (mov (cN 0))]).seq (((ops 0 [cO 7 (cM 0),cO 8 (cM 1),cO 9 (call (cF 41) [t 7,t 8]),cO 6 (cM 9)]).seq ((ops 0 [cO 10 (cM 6),cO 11 (cB .neq (t 10) (cN 0))]).seq (C2.cond (t 11) ((ops 0 [cO 12 (cM 6),cO 4 (mov ax),cO 5 (cM 12)]).seq ret) skip))).seq ((ops 0 [cO 13 (cM 0),cO 14 (cM 1),cO 15 (call (cF 43) [t 14]),cO 16 (call (cF 42) [t 13,t 15]),cO 17 (lenS (t 16)),cO 18 (cM 0),cO 19 (lenS (t 18)),cO 20 (cB .eql (t 17) (t 19)),cO 4 (cM 20),cO 5 (mov (cN 0))]).seq ret))))
theorem Bv:Is Tryz.prog 12 b12:=Is.mk' Tryz.func12 (by kernel_rfl)
def b19:F2:=(F2.mk 26 [RV.cn 4 1,RV.t 5] ((ops 0 [cO 2 (box (t 0)),cO 3 (box (t 1)),cO 4 (alloc (AV.agg [AV.esl])),cO 5 (mov (cN 0))]).seq (((ops 0 [cO 8 (ldn 1 (t 2)),cO 9 (cD 3),cO 10 (call (cF 31) [t 8,t 9]),cO 6 (cM 10)]).seq ((ops 0 [cO 11 (cM 6),cO 12 (cB .neq (t 11) (cN 0))]).seq (C2.cond (t 12) ((ops 0 [cO 13 (bld [AV.esl] []),cO 14 (cM 6),Op2.mk none none (Ins.st 1 (t 4) (t 13)),cO 5 (cM 14)]).seq ret) skip))).seq ((ops 0 [cO 15 (ldn 1 (t 2)),cO 16 (cD 3),cO 17 (call (cF 32) [t 15,t 16]),cO 7 (cM 17)]).seq (((ops 0 [cO 18 (cM 7),cO 19 (lenS (t 18)),cO 20 (cB .eql (t 19) (cN 0))]).seq (C2.cond (t 20) ((ops 0 [cO 21 (bld [AV.esl] []),Op2.mk none none (Ins.st 1 (t 4) (t 21)),cO 5 (mov (cN 6))]).seq ret) skip)).seq ((ops 0 [cO 22 (cM 7),cO 23 (mkfn 59 [t 3]),cO 24 (call (cF 58) [t 22,t 23]),cO 25 (call (cF 33) [t 24]),Op2.mk none none (Ins.st 1 (t 4) (t 25)),cO 5 (mov (cN 0))]).seq ret))))))
theorem Bh:Is Tryz.prog 19 b19:=Is.mk' Tryz.func19 (by kernel_rfl)
def b20:F2:=(F2.mk 26 [RV.t 4] ((ops 0 [cO 4 (mov ax)]).seq (((ops 0 [cO 6 (cM 0),cO 7 (lenS (t 6)),cO 8 (cM 1),cO 9 (lenS (t 8)),cO 10 (cB .neq (t 7) (t 9))]).seq (C2.cond (t 10) ((ops 0 [cO 4 (mov ax)]).seq ret) skip)).seq (((ops 0 [cO 11 (cM 0),cO 12 (lenS (t 11)),cO 13 (mov (cN 0))]).seq (block 0 ((ops 0 [cO 14 (cB .lss (t 13) (t 12))]).seq ((C2.cond (t 14) skip (exit 0)).seq ((block 1 ((ops 0 [cO 15 (cM 13),cO 5 (cM 15)]).seq ((ops 1 [cO 16 (cM 0),cO 17 (cM 5),cO 18 (ixaS 2 (t 16) (t 17)),cO 19 (ldn 2 (t 18)),cO 20 (cM 1),cO 21 (cM 5),cO 22 (ixaS 2 (t 20) (t 21)),cO 23 (ldn 2 (t 22)),cO 24 (binS BinOp.neq [int,int] (t 19) (t 23))]).seq (C2.cond (t 24) ((ops 0 [cO 4 (mov ax)]).seq ret) skip)))).seq (ops 0 [cO 25 (cB .add (t 13) (cN 1)),cO 13 (cM 25)])))).loop)).seq ((ops 0 [cO 4 (mov aN)]).seq ret)))))
theorem AH:Is Tryz.prog 20 b20:=Is.mk' Tryz.func20 (by kernel_rfl)
def b21:F2:=(F2.mk 38 [RV.t 2,RV.t 3] ((ops 0 [cO 1 (box (t 0)),cO 2 (mov (cN 0)),cO 3 (mov ax)]).seq ((ops 0 [cO 4 (mov (cN ((-1)))),cO 5 (mov aN)]).seq (((ops 0 [cO 6 (mov (cN 0))]).seq (block 0 (((ops 0 [cO 8 (cM 6),cO 9 (fa 0 (t 1)),cO 10 (cD 9),cO 11 (lenS (t 10)),cO 12 (cB .lss (t 8) (t 11))]).seq (C2.cond (t 12) skip (exit 0))).seq ((block 1 ((ops 0 [cO 15 (fa 0 (t 1)),cO 16 (cD 15),cO 17 (cM 6),cO 18 (ixaS 1 (t 16) (t 17)),cO 19 (cD 18),cO 20 (lenS (t 19)),cO 21 (cB .sub (t 20) (cN 1)),cO 7 (cM 21)]).seq ((ops 0 [cO 22 (cM 5),cO 23 (cM 22),cG 24 23 true (cM 6),cG 25 23 true (cB .eql (t 24) (cN 0)),cG 26 23 true (cM 25),cG 27 26 false (cM 7),cG 28 26 false (cM 4),cG 29 26 false (cB .eql (t 27) (t 28)),cG 30 23 true (pick (t 26) aN (t 29)),cO 31 (pick (t 23) (t 30) ax),cO 5 (cM 31)]).seq ((ops 0 [cO 32 (cM 7),cO 33 (cM 4),cO 34 (cB .gtr (t 32) (t 33))]).seq (C2.cond (t 34) (ops 0 [cO 35 (cM 7),cO 4 (cM 35)]) skip))))).seq (ops 0 [cO 13 (cM 6),cO 14 (cB .add (t 13) (cN 1)),cO 6 (cM 14)]))).loop)).seq ((ops 0 [cO 36 (cM 4),cO 37 (cM 5),cO 2 (cM 36),cO 3 (cM 37)]).seq ret)))))
theorem A2:Is Tryz.prog 21 b21:=Is.mk' Tryz.func21 (by kernel_rfl)
def b22:F2:=(F2.mk 6 [RV.t 2] ((ops 0 [cO 1 (box (t 0)),cO 2 (mov ax)]).seq ((ops 0 [cO 3 (fa 0 (t 1)),cO 4 (cD 3),cO 5 (call (cF 60) [t 4]),cO 2 (cM 5)]).seq ret)))
theorem Bm:Is Tryz.prog 22 b22:=Is.mk' Tryz.func22 (by kernel_rfl)
def b23:F2:=(F2.mk 68 [RV.t 2] ((ops 0 [cO 1 (box (t 0)),cO 2 (mov (cN 0))]).seq ((ops 0 [cO 8 (fa 0 (t 1)),cO 9 (cD 8),cO 3 (cM 9)]).seq (((ops 0 [cO 10 (cM 3),cO 11 (lenS (t 10)),cO 12 (cB .gtr (t 11) (cN 4096))]).seq (C2.cond (t 12) ((ops 0 [cO 2 (mov (cN 5))]).seq ret) skip)).seq (((ops 0 [cO 4 (mov (cN 0))]).seq (block 0 (((ops 0 [cO 13 (cM 4),cO 14 (cM 3),cO 15 (lenS (t 14)),cO 16 (cB .lss (t 13) (t 15))]).seq (C2.cond (t 16) skip (exit 0))).seq ((block 1 (((ops 0 [cO 19 (cM 3),cO 20 (cM 4),cO 21 (ixaS 1 (t 19) (t 20)),cO 22 (cD 21),cO 23 (call (cF 61) [t 22]),cO 5 (cM 23)]).seq ((ops 0 [cO 24 (cM 5),cO 25 (cB .neq (t 24) (cN 0))]).seq (C2.cond (t 25) ((ops 0 [cO 26 (cM 5),cO 2 (cM 26)]).seq ret) skip))).seq ((mixS 1 [cO 27 (cM 4),cO 28 (cB .gtr (t 27) (cN 0)),cO 29 (cM 28),cG 30 29 true (cM 3),cG 31 29 true (cM 4),cG 32 29 true (cB .sub (t 31) (cN 1)),cG 33 29 true (ixaS 1 (t 30) (t 32)),cG 34 29 true (cD 33),cG 35 29 true (cM 3),cG 36 29 true (cM 4),cG 37 29 true (ixaS 1 (t 35) (t 36)),cG 38 29 true (cD 37),cG 39 29 true (call (cF 62) [t 34,t 38]),cG 40 29 true (cB .geq (t 39) (cN 0)),cO 41 (pick (t 29) (t 40) ax)] [(0,0),(1,0),(2,0),(3,0),(4,0),(5,0),(6,0),(7,0),(8,0),(9,0),(10,0),(11,0),(12,2),(13,0),(14,0)]).seq (C2.cond (t 41) ((ops 0 [cO 2 (mov (cN 14))]).seq ret) skip)))).seq (ops 0 [cO 17 (cM 4),cO 18 (cB .add (t 17) (cN 1)),cO 4 (cM 18)]))).loop)).seq (((ops 0 [cO 6 (mov (cN 0))]).seq (block 2 (((ops 0 [cO 42 (cM 6),cO 43 (cM 3),cO 44 (lenS (t 43)),cO 45 (cB .lss (t 42) (t 44))]).seq (C2.cond (t 45) skip (exit 2))).seq ((block 3 ((ops 0 [cO 7 (mov (cN 0))]).seq (block 4 (((ops 0 [cO 48 (cM 7),cO 49 (cM 3),cO 50 (lenS (t 49)),cO 51 (cB .lss (t 48) (t 50))]).seq (C2.cond (t 51) skip (exit 4))).seq ((block 5 ((mixS 1 [cO 54 (cM 6),cO 55 (cM 7),cO 56 (cB .neq (t 54) (t 55)),cO 57 (cM 56),cG 58 57 true (cM 3),cG 59 57 true (cM 6),cG 60 57 true (ixaS 1 (t 58) (t 59)),cG 61 57 true (cD 60),cG 62 57 true (cM 3),cG 63 57 true (cM 7),cG 64 57 true (ixaS 1 (t 62) (t 63)),cG 65 57 true (cD 64),cG 66 57 true (call (cF 63) [t 61,t 65]),cO 67 (pick (t 57) (t 66) ax)] [(0,0),(1,0),(2,0),(3,0),(4,0),(5,0),(6,0),(7,0),(8,0),(9,0),(10,0),(11,0),(12,2),(13,0)]).seq (C2.cond (t 67) ((ops 0 [cO 2 (mov (cN 7))]).seq ret) skip))).seq (ops 0 [cO 52 (cM 7),cO 53 (cB .add (t 52) (cN 1)),cO 7 (cM 53)]))).loop))).seq (ops 0 [cO 46 (cM 6),cO 47 (cB .add (t 46) (cN 1)),cO 6 (cM 47)]))).loop)).seq ((ops 0 [cO 2 (mov (cN 0))]).seq ret)))))))
theorem Bs:Is Tryz.prog 23 b23:=Is.mk' Tryz.func23 (by kernel_rfl)
def b24:F2:=(F2.mk 13 [RV.t 2,RV.t 3] ((ops 0 [cO 1 (box (t 0)),cO 2 (mov (c AV.esl)),cO 3 (mov (cN 0))]).seq (((ops 0 [cO 5 (ldn 1 (t 1)),cO 6 (call (cF 26) [t 5]),cO 4 (cM 6)]).seq ((ops 0 [cO 7 (cM 4),cO 8 (cB .neq (t 7) (cN 0))]).seq (C2.cond (t 8) ((ops 0 [cO 9 (cM 4),cO 2 (mov (c AV.esl)),cO 3 (cM 9)]).seq ret) skip))).seq ((ops 0 [cO 10 (fa 0 (t 1)),cO 11 (cD 10),cO 12 (call (cF 64) [t 11]),cO 2 (cM 12),cO 3 (mov (cN 0))]).seq ret))))
theorem BE:Is Tryz.prog 24 b24:=Is.mk' Tryz.func24 (by kernel_rfl)
def b25:F2:=(F2.mk 31 [RV.t 2,RV.t 3] ((ops 0 [cO 1 (box (t 0)),cO 2 (mov (c AV.nilm)),cO 3 (mov (cN 0))]).seq (((ops 0 [cO 8 (ldn 2 (t 1)),cO 9 (call (cF 44) [t 8]),cO 4 (cM 9)]).seq ((ops 0 [cO 10 (cM 4),cO 11 (cB .neq (t 10) (cN 0))]).seq (C2.cond (t 11) ((ops 0 [cO 12 (cM 4),cO 2 (mov (c AV.nilm)),cO 3 (cM 12)]).seq ret) skip))).seq ((ops 0 [cO 13 (mkm none),cO 5 (cM 13)]).seq (((ops 0 [cO 14 (fa 0 (t 1)),cO 15 (cD 14),cO 16 (lenS (t 15)),cO 17 (mov (cN 0))]).seq (block 0 ((ops 0 [cO 18 (cB .lss (t 17) (t 16))]).seq ((C2.cond (t 18) skip (exit 0)).seq ((block 1 ((ops 0 [cO 19 (cM 17),cO 20 (ixaS 2 (t 15) (t 17)),cO 21 (ldn 2 (t 20)),cO 7 (alloc (AV.agg [AV.int IntKind.i64 (0),AV.int IntKind.i64 (0)])),cO 6 (cM 19),Op2.mk none none (Ins.st 2 (t 7) (t 21))]).seq (mixS 9 [cO 22 (cM 5),cO 23 (ldn 2 (t 7)),cO 24 (fa 1 (t 1)),cO 25 (cD 24),cO 26 (cM 6),cO 27 (ixaS 2 (t 25) (t 26)),cO 28 (ldn 2 (t 27)),Op2.mk none none (mput (MK.st [int,int]) (t 22) (t 23) (t 28))] [(0,0),(1,0),(2,0),(3,0),(4,0),(5,0),(6,0),(7,2)]))).seq (ops 0 [cO 29 (cB .add (t 17) (cN 1)),cO 17 (cM 29)])))).loop)).seq ((ops 0 [cO 30 (cM 5),cO 2 (cM 30),cO 3 (mov (cN 0))]).seq ret))))))
theorem As:Is Tryz.prog 25 b25:=Is.mk' Tryz.func25 (by kernel_rfl)
def b26:F2:=(F2.mk 60 [RV.t 2] ((ops 0 [cO 1 (box (t 0)),cO 2 (mov (cN 0))]).seq (((ops 0 [cO 9 (fa 0 (t 1)),cO 10 (cD 9),cO 11 (lenS (t 10)),cO 12 (cB .gtr (t 11) (cN 4096))]).seq (C2.cond (t 12) ((ops 0 [cO 2 (mov (cN 5))]).seq ret) skip)).seq (((ops 0 [cO 13 (fa 0 (t 1)),cO 14 (cD 13),cO 15 (lenS (t 14)),cO 16 (mov (cN 0))]).seq (block 0 ((ops 0 [cO 17 (cB .lss (t 16) (t 15))]).seq ((C2.cond (t 17) skip (exit 0)).seq ((block 1 ((ops 0 [cO 18 (cM 16),cO 19 (ixaS 1 (t 14) (t 16)),cO 20 (cD 19),cO 3 (cM 18),cO 4 (cM 20)]).seq (((ops 0 [cO 21 (cM 4),cO 22 (call (cF 29) [t 21]),cO 5 (cM 22)]).seq ((ops 0 [cO 23 (cM 5),cO 24 (cB .neq (t 23) (cN 0))]).seq (C2.cond (t 24) ((ops 0 [cO 25 (cM 5),cO 2 (cM 25)]).seq ret) skip))).seq ((ops 0 [cO 26 (cM 3),cO 27 (cB .gtr (t 26) (cN 0)),cO 28 (cM 27),cG 29 28 true (fa 0 (t 1)),cG 30 28 true (cD 29),cG 31 28 true (cM 3),cG 32 28 true (cB .sub (t 31) (cN 1)),cG 33 28 true (ixaS 1 (t 30) (t 32)),cG 34 28 true (cD 33),cG 35 28 true (cM 4),cG 36 28 true (call (cF 49) [t 34,t 35]),cG 37 28 true (cB .geq (t 36) (cN 0)),cO 38 (pick (t 28) (t 37) ax)]).seq (C2.cond (t 38) ((ops 0 [cO 2 (mov (cN 14))]).seq ret) skip))))).seq (ops 0 [cO 39 (cB .add (t 16) (cN 1)),cO 16 (cM 39)])))).loop)).seq ((ops 0 [cO 40 (fa 0 (t 1)),cO 41 (cD 40),cO 42 (call (cF 65) [t 41]),cO 6 (cM 42)]).seq (((ops 0 [cO 43 (fa 0 (t 1)),cO 44 (cD 43),cO 45 (lenS (t 44)),cO 46 (mov (cN 0))]).seq (block 2 ((ops 0 [cO 47 (cB .lss (t 46) (t 45))]).seq ((C2.cond (t 47) skip (exit 2)).seq ((block 3 ((ops 0 [cO 48 (ixaS 1 (t 44) (t 46)),cO 49 (cD 48),cO 8 (cM 49)]).seq ((mixS 9 [cO 50 (fa 0 (t 1)),cO 51 (cD 50),cO 52 (cM 6),cO 53 (cM 8),cO 54 (ixaS 2 (t 53) (cN 0)),cO 55 (ldn 2 (t 54)),cO 56 (Ins.mget (MK.st [int,int]) AV.esl false (t 52) (t 55)),cO 57 (cM 8),cO 58 (call (cF 66) [t 51,t 56,t 57])] [(0,0),(1,0),(2,0),(3,0),(4,0),(5,0),(7,0),(6,1),(8,2)]).seq (C2.cond (t 58) ((ops 0 [cO 2 (mov (cN 7))]).seq ret) skip)))).seq (ops 0 [cO 59 (cB .add (t 46) (cN 1)),cO 46 (cM 59)])))).loop)).seq ((ops 0 [cO 2 (mov (cN 0))]).seq ret)))))))
theorem zP:Is Tryz.prog 26 b26:=Is.mk' Tryz.func26 (by kernel_rfl)
def b27:F2:=(F2.mk 32 [RV.t 4,RV.t 5] ((ops 0 [cO 3 (box (t 1)),cO 4 (mov (c AV.esl)),cO 5 (mov ax)]).seq ((ops 0 [cO 6 (mov (c AV.esl))]).seq (((ops 0 [cO 11 (fa 0 (t 3)),cO 12 (cD 11),cO 13 (lenS (t 12)),cO 14 (mov (cN 0))]).seq (block 0 ((ops 0 [cO 15 (cB .lss (t 14) (t 13))]).seq ((C2.cond (t 15) skip (exit 0)).seq ((block 1 ((ops 0 [cO 16 (ixaS 1 (t 12) (t 14)),cO 17 (cD 16),cO 8 (cM 17)]).seq ((ops 0 [cO 19 (cM 0),cO 20 (cM 8),cO 21 (call (cF 30) [t 19,t 20]),cO 18 (cM 21),cO 22 (ext (t 18) 0),cO 23 (ext (t 18) 1),cO 9 (cM 22),cO 10 (cM 23)]).seq (((ops 0 [cO 24 (cM 10),cO 25 (un UnOp.not (t 24))]).seq (C2.cond (t 25) ((ops 0 [cO 4 (mov (c AV.esl)),cO 5 (mov ax)]).seq ret) skip)).seq (ops 0 [cO 26 (cM 6),cO 27 (cM 9),cO 28 (bldS 1 1 [AV.esl] [(0,1,t 27)]),cO 29 (app 1 24 (t 26) (t 28)),cO 6 (cM 29)]))))).seq (ops 0 [cO 30 (cB .add (t 14) (cN 1)),cO 14 (cM 30)])))).loop)).seq ((ops 0 [cO 31 (cM 6),cO 4 (cM 31),cO 5 (mov aN)]).seq ret)))))
theorem zN:Is Tryz.prog 27 b27:=Is.mk' Tryz.func27 (by kernel_rfl)
def b28:F2:=(F2.mk 26 [RV.cn 2 1,RV.t 3] ((ops 0 [cO 2 (alloc (AV.agg [AV.esl])),cO 3 (mov (cN 0))]).seq (((ops 0 [cO 7 (cM 0),cO 8 (lenS (t 7)),cO 9 (cB .gtr (t 8) (cN 4096))]).seq (C2.cond (t 9) ((ops 0 [cO 10 (bld [AV.esl] []),Op2.mk none none (Ins.st 1 (t 2) (t 10)),cO 3 (mov (cN 5))]).seq ret) skip)).seq (((ops 0 [cO 11 (cM 0),cO 12 (lenS (t 11)),cO 13 (mov (cN 0))]).seq (block 0 ((ops 0 [cO 14 (cB .lss (t 13) (t 12))]).seq ((C2.cond (t 14) skip (exit 0)).seq ((block 1 ((ops 0 [cO 15 (ixaS 1 (t 11) (t 13)),cO 16 (cD 15),cO 5 (cM 16)]).seq ((ops 0 [cO 17 (cM 5),cO 18 (call (cF 29) [t 17]),cO 6 (cM 18)]).seq ((ops 0 [cO 19 (cM 6),cO 20 (cB .neq (t 19) (cN 0))]).seq (C2.cond (t 20) ((ops 0 [cO 21 (bld [AV.esl] []),cO 22 (cM 6),Op2.mk none none (Ins.st 1 (t 2) (t 21)),cO 3 (cM 22)]).seq ret) skip))))).seq (ops 0 [cO 23 (cB .add (t 13) (cN 1)),cO 13 (cM 23)])))).loop)).seq ((ops 0 [cO 24 (cM 0),cO 25 (call (cF 33) [t 24]),Op2.mk none none (Ins.st 1 (t 2) (t 25)),cO 3 (mov (cN 0))]).seq ret)))))
theorem zK:Is Tryz.prog 28 b28:=Is.mk' Tryz.func28 (by kernel_rfl)
def b29:F2:=(F2.mk 36 [RV.t 2] ((ops 0 [cO 2 (mov (cN 0))]).seq ((block 0 ((ops 0 [cO 6 (cM 0),cO 7 (lenS (t 6)),cO 8 (cB .eql (t 7) (cN 0)),cO 5 (cM 8)]).seq (C2.cond (t 5) ((ops 0 [cO 2 (mov (cN 16))]).seq ret) ((ops 0 [cO 10 (cM 0),cO 11 (lenS (t 10)),cO 12 (cB .gtr (t 11) (cN 8)),cO 9 (cM 12)]).seq (C2.cond (t 9) ((ops 0 [cO 2 (mov (cN 5))]).seq ret) skip))))).seq (((ops 0 [cO 13 (cM 0),cO 14 (lenS (t 13)),cO 15 (mov (cN 0))]).seq (block 1 ((ops 0 [cO 16 (cB .lss (t 15) (t 14))]).seq ((C2.cond (t 16) skip (exit 1)).seq ((block 2 ((ops 0 [cO 17 (cM 15),cO 18 (ixaS 2 (t 13) (t 15)),cO 19 (ldn 2 (t 18)),cO 4 (alloc (AV.agg [AV.int IntKind.i64 (0),AV.int IntKind.i64 (0)])),cO 3 (cM 17),Op2.mk none none (Ins.st 2 (t 4) (t 19))]).seq (((ops 0 [cO 20 (ldn 2 (t 4)),cO 21 (call (cF 67) [t 20]),cO 22 (un UnOp.not (t 21))]).seq (C2.cond (t 22) ((ops 0 [cO 2 (mov (cN 2))]).seq ret) skip)).seq ((mixS 1 [cO 23 (cM 3),cO 24 (cB .gtr (t 23) (cN 0)),cO 25 (cM 24),cG 26 25 true (cM 0),cG 27 25 true (cM 3),cG 28 25 true (cB .sub (t 27) (cN 1)),cG 29 25 true (ixaS 2 (t 26) (t 28)),cG 30 25 true (ldn 2 (t 29)),cG 31 25 true (ldn 2 (t 4)),cG 32 25 true (call (cF 68) [t 30,t 31]),cG 33 25 true (cB .geq (t 32) (cN 0)),cO 34 (pick (t 25) (t 33) ax)] [(0,0),(1,0),(2,0),(3,0),(4,0),(5,0),(6,0),(7,0),(8,0),(9,2),(10,0),(11,0)]).seq (C2.cond (t 34) ((ops 0 [cO 2 (mov (cN 14))]).seq ret) skip))))).seq (ops 0 [cO 35 (cB .add (t 15) (cN 1)),cO 15 (cM 35)])))).loop)).seq ((ops 0 [cO 2 (mov (cN 0))]).seq ret)))))
theorem zZ:Is Tryz.prog 29 b29:=Is.mk' Tryz.func29 (by kernel_rfl)
def b30:F2:=(F2.mk 34 [RV.t 4,RV.t 5] ((ops 0 [cO 4 (mov (c AV.esl)),cO 5 (mov ax)]).seq ((ops 0 [cO 6 (mov (c AV.esl))]).seq (((ops 0 [cO 11 (cM 1),cO 12 (lenS (t 11)),cO 13 (mov (cN 0))]).seq (block 0 ((ops 0 [cO 14 (cB .lss (t 13) (t 12))]).seq ((C2.cond (t 14) skip (exit 0)).seq ((block 1 ((ops 0 [cO 15 (ixaS 2 (t 11) (t 13)),cO 16 (ldn 2 (t 15)),cO 8 (alloc (AV.agg [AV.int IntKind.i64 (0),AV.int IntKind.i64 (0)])),Op2.mk none none (Ins.st 2 (t 8) (t 16))]).seq ((ops 0 [cO 18 (cM 0),cO 19 (ldn 2 (t 8)),cO 20 (Ins.mget (MK.st [int,int]) (AV.agg [AV.int IntKind.i64 (0),AV.int IntKind.i64 (0)]) true (t 18) (t 19)),cO 17 (cM 20),cO 21 (ext (t 17) 0),cO 22 (ext (t 17) 1),cO 9 (alloc (AV.agg [AV.int IntKind.i64 (0),AV.int IntKind.i64 (0)])),Op2.mk none none (Ins.st 2 (t 9) (t 21)),cO 10 (cM 22)]).seq (((ops 0 [cO 23 (cM 10),cO 24 (un UnOp.not (t 23))]).seq (C2.cond (t 24) ((ops 0 [cO 4 (mov (c AV.esl)),cO 5 (mov ax)]).seq ret) skip)).seq (ops 0 [cO 25 (cM 6),cO 26 (ldn 2 (t 9)),cO 27 (bldS 2 1 [AV.int IntKind.i64 (0),AV.int IntKind.i64 (0)] [(0,2,t 26)]),cO 28 (app 2 16 (t 25) (t 27)),cO 6 (cM 28)]))))).seq (ops 0 [cO 29 (cB .add (t 13) (cN 1)),cO 13 (cM 29)])))).loop)).seq ((ops 0 [cO 30 (cM 6),cO 31 (call (cF 69) [t 30,c (AV.func 70 [])])]).seq ((ops 0 [cO 32 (cM 6),cO 33 (call (cF 71) [t 32]),cO 4 (cM 33),cO 5 (mov aN)]).seq ret))))))
theorem Ax:Is Tryz.prog 30 b30:=Is.mk' Tryz.func30 (by kernel_rfl)
def b31:F2:=(F2.mk 13 [RV.t 4] ((ops 0 [cO 2 (box (t 0)),cO 4 (mov (cN 0))]).seq (((ops 0 [cO 6 (ldn 1 (t 2)),cO 7 (call (cF 26) [t 6]),cO 5 (cM 7)]).seq ((ops 0 [cO 8 (cM 5),cO 9 (cB .neq (t 8) (cN 0))]).seq (C2.cond (t 9) ((ops 0 [cO 10 (cM 5),cO 4 (cM 10)]).seq ret) skip))).seq ((ops 0 [cO 11 (cM 1),cO 12 (call (cF 29) [t 11]),cO 4 (cM 12)]).seq ret))))
theorem AO:Is Tryz.prog 31 b31:=Is.mk' Tryz.func31 (by kernel_rfl)
def b32:F2:=(F2.mk 9 [RV.t 4] ((ops 0 [cO 2 (box (t 0)),cO 3 (box (t 1)),cO 4 (mov (c AV.esl))]).seq ((ops 0 [cO 5 (fa 0 (t 2)),cO 6 (cD 5),cO 7 (mkfn 73 [t 3]),cO 8 (call (cF 72) [t 6,t 7]),cO 4 (cM 8)]).seq ret)))
theorem zR:Is Tryz.prog 32 b32:=Is.mk' Tryz.func32 (by kernel_rfl)
def b33:F2:=(F2.mk 39 [RV.cn 2 1] ((ops 0 [cO 2 (alloc (AV.agg [AV.esl]))]).seq ((ops 0 [cO 7 (cM 0),cO 8 (call (cF 75) [t 7]),cO 0 (cM 8)]).seq ((ops 0 [cO 9 (cM 0),cO 10 (call (cF 76) [t 9,c (AV.func 49 [])])]).seq ((ops 0 [cO 11 (cM 0),cO 12 (call (cF 77) [t 11,c (AV.func 20 [])]),cO 0 (cM 12)]).seq ((ops 0 [cO 13 (cM 0),cO 14 (call (cF 65) [t 13]),cO 3 (cM 14)]).seq ((ops 0 [cO 4 (alloc (AV.agg [AV.esl]))]).seq (((ops 0 [cO 15 (cM 0),cO 16 (lenS (t 15)),cO 17 (mov (cN 0))]).seq (block 0 ((ops 0 [cO 18 (cB .lss (t 17) (t 16))]).seq ((C2.cond (t 18) skip (exit 0)).seq ((block 1 ((ops 0 [cO 19 (ixaS 1 (t 15) (t 17)),cO 20 (cD 19),cO 6 (cM 20)]).seq ((ops 0 [cO 21 (cM 0),cO 22 (cM 3),cO 23 (cM 6),cO 24 (ixaS 2 (t 23) (cN 0)),cO 25 (ldn 2 (t 24)),cO 26 (Ins.mget (MK.st [int,int]) AV.esl false (t 22) (t 25)),cO 27 (cM 6),cO 28 (call (cF 66) [t 21,t 26,t 27]),cO 29 (un UnOp.not (t 28))]).seq (C2.cond (t 29) (mixS 1 [cO 30 (fa 0 (t 4)),cO 31 (cD 30),cO 32 (cM 6),cO 33 (call (cF 45) [t 32]),cO 34 (bldS 1 1 [AV.esl] [(0,1,t 33)]),cO 35 (app 1 24 (t 31) (t 34)),cO 36 (fa 0 (t 4)),Op2.mk none none (Ins.st 1 (t 36) (t 35))] [(0,0),(1,0),(2,0),(3,1),(4,1),(5,2),(6,0),(7,2)]) skip)))).seq (ops 0 [cO 37 (cB .add (t 17) (cN 1)),cO 17 (cM 37)])))).loop)).seq ((ops 0 [cO 38 (ldn 1 (t 4)),Op2.mk none none (Ins.st 1 (t 2) (t 38))]).seq ret)))))))))
theorem AP:Is Tryz.prog 33 b33:=Is.mk' Tryz.func33 (by kernel_rfl)
def b34:F2:=(F2.mk 9 [RV.t 4] ((ops 0 [cO 3 (box (t 1)),cO 4 (mov ax)]).seq ((ops 0 [cO 5 (cM 0),cO 6 (mkfn 36 [t 3]),cO 7 (call (cF 35) [t 5,t 6]),cO 8 (un UnOp.not (t 7)),cO 4 (cM 8)]).seq ret)))
theorem A9:Is Tryz.prog 34 b34:=Is.mk' Tryz.func34 (by kernel_rfl)
def b35:F2:=(F2.mk 9 [RV.t 4] ((ops 0 [cO 4 (mov ax)]).seq ((ops 0 [cO 5 (cM 0),cO 6 (cM 1),cO 7 (call (cF 78) [t 5,t 6]),cO 8 (cB .geq (t 7) (cN 0)),cO 4 (cM 8)]).seq ret)))
theorem Bf:Is Tryz.prog 35 b35:=Is.mk' Tryz.func35 (by kernel_rfl)
def b36:F2:=(F2.mk 8 [RV.t 3] ((ops 0 [cO 2 (box (t 0)),cO 3 (mov ax)]).seq ((ops 0 [cO 4 (cD 1),cO 5 (ldn 2 (t 2)),cO 6 (call (cF 37) [t 4,t 5]),cO 7 (un UnOp.not (t 6)),cO 3 (cM 7)]).seq ret)))
theorem A4:Is Tryz.prog 36 b36:=Is.mk' Tryz.func36 (by kernel_rfl)
def b37:F2:=(F2.mk 9 [RV.t 4] ((ops 0 [cO 3 (box (t 1)),cO 4 (mov ax)]).seq ((ops 0 [cO 5 (cM 0),cO 6 (ldn 2 (t 3)),cO 7 (call (cF 79) [t 5,t 6]),cO 8 (cB .geq (t 7) (cN 0)),cO 4 (cM 8)]).seq ret)))
theorem Ai:Is Tryz.prog 37 b37:=Is.mk' Tryz.func37 (by kernel_rfl)
def b38:F2:=(F2.mk 9 [RV.t 4] ((ops 0 [cO 4 (mov ax)]).seq ((ops 0 [cO 5 (cM 0),cO 6 (cM 1),cO 7 (call (cF 80) [t 5,t 6]),cO 8 (cB .geq (t 7) (cN 0)),cO 4 (cM 8)]).seq ret)))
theorem A3:Is Tryz.prog 38 b38:=Is.mk' Tryz.func38 (by kernel_rfl)
def b39:F2:=(F2.mk 10 [RV.t 4] ((ops 0 [cO 3 (box (t 0)),cO 4 (mov ax)]).seq ((ops 0 [cO 5 (fa 0 (t 1)),cO 6 (cD 5),cO 7 (mkfn 40 [t 2,t 3]),cO 8 (call (cF 38) [t 6,t 7]),cO 9 (un UnOp.not (t 8)),cO 4 (cM 9)]).seq ret)))
theorem BF:Is Tryz.prog 39 b39:=Is.mk' Tryz.func39 (by kernel_rfl)
def b40:F2:=(F2.mk 9 [RV.t 4] ((ops 0 [cO 4 (mov ax)]).seq ((ops 0 [cO 5 (cD 1),cO 6 (cD 2),cO 7 (cM 0),cO 8 (call (t 5) [t 6,t 7]),cO 4 (cM 8)]).seq ret)))
theorem Bi:Is Tryz.prog 40 b40:=Is.mk' Tryz.func40 (by kernel_rfl)
def b41:F2:=(F2.mk 11 [RV.t 4] ((ops 0 [cO 4 (mov (cN 0))]).seq ((ops 0 [cO 5 (cM 0),cO 6 (call (cF 29) [t 5]),cO 7 (cM 1),cO 8 (call (cF 29) [t 7]),cO 9 (bldS 1 2 [AV.int IntKind.i64 (0)] [(0,1,t 6),(1,1,t 8)]),cO 10 (call (cF 81) [t 9]),cO 4 (cM 10)]).seq ret)))
theorem Bt:Is Tryz.prog 41 b41:=Is.mk' Tryz.func41 (by kernel_rfl)
def b42:F2:=(F2.mk 23 [RV.t 4] ((ops 0 [cO 4 (mov (c AV.esl))]).seq ((ops 0 [cO 5 (mov (c AV.esl))]).seq (((ops 0 [cO 8 (cM 0),cO 9 (lenS (t 8)),cO 10 (mov (cN 0))]).seq (block 0 ((ops 0 [cO 11 (cB .lss (t 10) (t 9))]).seq ((C2.cond (t 11) skip (exit 0)).seq ((block 1 ((ops 0 [cO 12 (ixaS 2 (t 8) (t 10)),cO 13 (ldn 2 (t 12)),cO 7 (alloc (AV.agg [AV.int IntKind.i64 (0),AV.int IntKind.i64 (0)])),Op2.mk none none (Ins.st 2 (t 7) (t 13))]).seq ((ops 0 [cO 14 (cM 1),cO 15 (ldn 2 (t 7)),cO 16 (call (t 14) [t 15])]).seq (C2.cond (t 16) (ops 0 [cO 17 (cM 5),cO 18 (ldn 2 (t 7)),cO 19 (bldS 2 1 [AV.int IntKind.i64 (0),AV.int IntKind.i64 (0)] [(0,2,t 18)]),cO 20 (app 2 16 (t 17) (t 19)),cO 5 (cM 20)]) skip)))).seq (ops 0 [cO 21 (cB .add (t 10) (cN 1)),cO 10 (cM 21)])))).loop)).seq ((ops 0 [cO 22 (cM 5),cO 4 (cM 22)]).seq ret)))))
theorem Bx:Is Tryz.prog 42 b42:=Is.mk' Tryz.func42 (by kernel_rfl)
def b43:F2:=(F2.mk 4 [RV.t 2] ((ops 0 [cO 1 (box (t 0)),cO 2 (mov (c AV.nilf))]).seq ((ops 0 [cO 3 (mkfn 82 [t 1]),cO 2 (cM 3)]).seq ret)))
theorem Ba:Is Tryz.prog 43 b43:=Is.mk' Tryz.func43 (by kernel_rfl)
def b44:F2:=(F2.mk 54 [RV.t 2] ((ops 0 [cO 1 (box (t 0)),cO 2 (mov (cN 0))]).seq ((block 0 ((ops 0 [cO 6 (fa 0 (t 1)),cO 7 (cD 6),cO 8 (lenS (t 7)),cO 9 (cB .gtr (t 8) (cN 4096)),cO 5 (cM 9)]).seq (C2.cond (t 5) ((ops 0 [cO 2 (mov (cN 5))]).seq ret) ((ops 0 [cO 11 (fa 1 (t 1)),cO 12 (cD 11),cO 13 (lenS (t 12)),cO 14 (fa 0 (t 1)),cO 15 (cD 14),cO 16 (lenS (t 15)),cO 17 (cB .neq (t 13) (t 16)),cO 10 (cM 17)]).seq (C2.cond (t 10) ((ops 0 [cO 2 (mov (cN 15))]).seq ret) skip))))).seq (((ops 0 [cO 18 (fa 0 (t 1)),cO 19 (cD 18),cO 20 (lenS (t 19)),cO 21 (mov (cN 0))]).seq (block 1 ((ops 0 [cO 22 (cB .lss (t 21) (t 20))]).seq ((C2.cond (t 22) skip (exit 1)).seq ((block 2 ((ops 0 [cO 23 (cM 21),cO 24 (ixaS 2 (t 19) (t 21)),cO 25 (ldn 2 (t 24)),cO 4 (alloc (AV.agg [AV.int IntKind.i64 (0),AV.int IntKind.i64 (0)])),cO 3 (cM 23),Op2.mk none none (Ins.st 2 (t 4) (t 25))]).seq (block 3 ((ops 0 [cO 27 (ldn 2 (t 4)),cO 28 (call (cF 83) [t 27]),cO 29 (un UnOp.not (t 28)),cO 30 (cM 29),cG 31 30 false (fa 1 (t 1)),cG 32 30 false (cD 31),cG 33 30 false (cM 3),cG 34 30 false (ixaS 2 (t 32) (t 33)),cG 35 30 false (ldn 2 (t 34)),cG 36 30 false (call (cF 83) [t 35]),cG 37 30 false (un UnOp.not (t 36)),cO 38 (pick (t 30) aN (t 37)),cO 26 (cM 38)]).seq (C2.cond (t 26) ((ops 0 [cO 2 (mov (cN 2))]).seq ret) ((mixS 1 [cO 40 (cM 3),cO 41 (cB .gtr (t 40) (cN 0)),cO 42 (cM 41),cG 43 42 true (fa 0 (t 1)),cG 44 42 true (cD 43),cG 45 42 true (cM 3),cG 46 42 true (cB .sub (t 45) (cN 1)),cG 47 42 true (ixaS 2 (t 44) (t 46)),cG 48 42 true (ldn 2 (t 47)),cG 49 42 true (ldn 2 (t 4)),cG 50 42 true (call (cF 70) [t 48,t 49]),cG 51 42 true (cB .geq (t 50) (cN 0)),cO 52 (pick (t 42) (t 51) ax),cO 39 (cM 52)] [(0,0),(1,0),(2,0),(3,0),(4,0),(5,0),(6,0),(7,0),(8,0),(9,0),(10,2),(11,0),(12,0),(13,0)]).seq (C2.cond (t 39) ((ops 0 [cO 2 (mov (cN 14))]).seq ret) skip))))))).seq (ops 0 [cO 53 (cB .add (t 21) (cN 1)),cO 21 (cM 53)])))).loop)).seq ((ops 0 [cO 2 (mov (cN 0))]).seq ret)))))
theorem z8:Is Tryz.prog 44 b44:=Is.mk' Tryz.func44 (by kernel_rfl)
def b45:F2:=(F2.mk 8 [RV.t 2] ((ops 0 [cO 2 (mov (c AV.esl))]).seq (((ops 0 [cO 3 (cM 0),cO 4 (snil false (t 3))]).seq (C2.cond (t 4) ((ops 0 [cO 2 (mov (c AV.esl))]).seq ret) skip)).seq ((ops 0 [cO 5 (bldS 2 0 [AV.int IntKind.i64 (0),AV.int IntKind.i64 (0)] []),cO 6 (cM 0),cO 7 (app 2 16 (t 5) (t 6)),cO 2 (cM 7)]).seq ret))))
theorem zQ:Is Tryz.prog 45 b45:=Is.mk' Tryz.func45 (by kernel_rfl)
def b49:F2:=(F2.mk 8 [RV.t 4] ((ops 0 [cO 4 (mov (cN 0))]).seq ((ops 0 [cO 5 (cM 0),cO 6 (cM 1),cO 7 (call (cF 87) [t 5,t 6,c (AV.func 68 [])]),cO 4 (cM 7)]).seq ret)))
theorem AD:Is Tryz.prog 49 b49:=Is.mk' Tryz.func49 (by kernel_rfl)
def b58:F2:=(F2.mk 27 [RV.t 4] ((ops 0 [cO 4 (mov (c AV.esl))]).seq ((ops 0 [cO 5 (mov (c AV.esl))]).seq (((ops 0 [cO 9 (cM 0),cO 10 (lenS (t 9)),cO 11 (mov (cN 0))]).seq (block 0 ((ops 0 [cO 12 (cB .lss (t 11) (t 10))]).seq ((C2.cond (t 12) skip (exit 0)).seq ((block 1 ((ops 0 [cO 13 (ixaS 1 (t 9) (t 11)),cO 14 (cD 13),cO 7 (cM 14)]).seq ((ops 0 [cO 15 (cM 7),cO 16 (cM 1),cO 17 (call (cF 93) [t 15,t 16]),cO 8 (cM 17)]).seq ((ops 0 [cO 18 (cM 8),cO 19 (lenS (t 18)),cO 20 (cB .gtr (t 19) (cN 0))]).seq (C2.cond (t 20) (ops 0 [cO 21 (cM 5),cO 22 (cM 8),cO 23 (bldS 1 1 [AV.esl] [(0,1,t 22)]),cO 24 (app 1 24 (t 21) (t 23)),cO 5 (cM 24)]) skip))))).seq (ops 0 [cO 25 (cB .add (t 11) (cN 1)),cO 11 (cM 25)])))).loop)).seq ((ops 0 [cO 26 (cM 5),cO 4 (cM 26)]).seq ret)))))
theorem Be:Is Tryz.prog 58 b58:=Is.mk' Tryz.func58 (by kernel_rfl)
def b59:F2:=(F2.mk 8 [RV.t 3] ((ops 0 [cO 2 (box (t 0)),cO 3 (mov ax)]).seq ((ops 0 [cO 4 (cD 1),cO 5 (ldn 2 (t 2)),cO 6 (call (cF 37) [t 4,t 5]),cO 7 (un UnOp.not (t 6)),cO 3 (cM 7)]).seq ret)))
theorem BB:Is Tryz.prog 59 b59:=Is.mk' Tryz.func59 (by kernel_rfl)
def b60:F2:=(F2.mk 19 [RV.t 2] ((ops 0 [cO 2 (mov ax)]).seq (((ops 0 [cO 4 (cM 0),cO 5 (lenS (t 4)),cO 6 (cB .gtr (t 5) (cN 30))]).seq (C2.cond (t 6) ((ops 0 [cO 2 (mov ax)]).seq ret) skip)).seq (((ops 0 [cO 3 (mov (cN 0))]).seq (block 0 (((ops 0 [cO 7 (cM 3),cO 8 (cM 0),cO 9 (lenS (t 8)),cO 10 (cB .lss (t 7) (t 9))]).seq (C2.cond (t 10) skip (exit 0))).seq ((block 1 ((ops 0 [cO 13 (cM 0),cO 14 (cM 3),cO 15 (ixaS 1 (t 13) (t 14)),cO 16 (cD 15),cO 17 (call (cF 94) [t 16]),cO 18 (un UnOp.not (t 17))]).seq (C2.cond (t 18) ((ops 0 [cO 2 (mov ax)]).seq ret) skip))).seq (ops 0 [cO 11 (cM 3),cO 12 (cB .add (t 11) (cN 1)),cO 3 (cM 12)]))).loop)).seq ((ops 0 [cO 2 (mov aN)]).seq ret)))))
theorem Bl:Is Tryz.prog 60 b60:=Is.mk' Tryz.func60 (by kernel_rfl)
def b61:F2:=(F2.mk 39 [RV.t 2] ((ops 0 [cO 2 (mov (cN 0))]).seq ((block 0 ((ops 0 [cO 5 (cM 0),cO 6 (lenS (t 5)),cO 7 (cB .eql (t 6) (cN 0)),cO 4 (cM 7)]).seq (C2.cond (t 4) ((ops 0 [cO 2 (mov (cN 16))]).seq ret) ((ops 0 [cO 9 (cM 0),cO 10 (lenS (t 9)),cO 11 (cB .gtr (t 10) (cN 8)),cO 8 (cM 11)]).seq (C2.cond (t 8) ((ops 0 [cO 2 (mov (cN 5))]).seq ret) skip))))).seq (((ops 0 [cO 3 (mov (cN 0))]).seq (block 1 (((ops 0 [cO 12 (cM 3),cO 13 (cM 0),cO 14 (lenS (t 13)),cO 15 (cB .lss (t 12) (t 14))]).seq (C2.cond (t 15) skip (exit 1))).seq ((block 2 (((ops 0 [cO 18 (cM 0),cO 19 (cM 3),cO 20 (ixaS 2 (t 18) (t 19)),cO 21 (ldn 2 (t 20)),cO 22 (call (cF 95) [t 21]),cO 23 (un UnOp.not (t 22))]).seq (C2.cond (t 23) ((ops 0 [cO 2 (mov (cN 2))]).seq ret) skip)).seq ((mixS 1 [cO 24 (cM 3),cO 25 (cB .gtr (t 24) (cN 0)),cO 26 (cM 25),cG 27 26 true (cM 0),cG 28 26 true (cM 3),cG 29 26 true (cB .sub (t 28) (cN 1)),cG 30 26 true (ixaS 2 (t 27) (t 29)),cG 31 26 true (ldn 2 (t 30)),cG 32 26 true (cM 0),cG 33 26 true (cM 3),cG 34 26 true (ixaS 2 (t 32) (t 33)),cG 35 26 true (ldn 2 (t 34)),cG 36 26 true (call (cF 96) [t 31,t 35]),cG 37 26 true (cB .geq (t 36) (cN 0)),cO 38 (pick (t 26) (t 37) ax)] [(0,0),(1,0),(2,0),(3,0),(4,0),(5,0),(6,0),(7,0),(8,0),(9,0),(10,0),(11,0),(12,2),(13,0),(14,0)]).seq (C2.cond (t 38) ((ops 0 [cO 2 (mov (cN 14))]).seq ret) skip)))).seq (ops 0 [cO 16 (cM 3),cO 17 (cB .add (t 16) (cN 1)),cO 3 (cM 17)]))).loop)).seq ((ops 0 [cO 2 (mov (cN 0))]).seq ret)))))
theorem Bd:Is Tryz.prog 61 b61:=Is.mk' Tryz.func61 (by kernel_rfl)
def b62:F2:=(F2.mk 43 [RV.t 4] ((ops 0 [cO 4 (mov (cN 0))]).seq (((ops 0 [cO 5 (mov (cN 0))]).seq (block 0 (((ops 0 [cO 7 (cM 5),cO 8 (cM 0),cO 9 (lenS (t 8)),cO 10 (cB .lss (t 7) (t 9)),cO 11 (cM 10),cG 12 11 true (cM 5),cG 13 11 true (cM 1),cG 14 11 true (lenS (t 13)),cG 15 11 true (cB .lss (t 12) (t 14)),cO 16 (pick (t 11) (t 15) ax)]).seq (C2.cond (t 16) skip (exit 0))).seq ((block 1 ((mixS 1 [cO 19 (cM 0),cO 20 (cM 5),cO 21 (ixaS 2 (t 19) (t 20)),cO 22 (ldn 2 (t 21)),cO 23 (cM 1),cO 24 (cM 5),cO 25 (ixaS 2 (t 23) (t 24)),cO 26 (ldn 2 (t 25)),cO 27 (call (cF 96) [t 22,t 26]),cO 6 (cM 27)] [(0,0),(1,0),(2,0),(3,0),(4,0),(5,0),(6,0),(7,0),(8,2),(9,0)]).seq ((ops 0 [cO 28 (cM 6),cO 29 (cB .neq (t 28) (cN 0))]).seq (C2.cond (t 29) ((ops 0 [cO 30 (cM 6),cO 4 (cM 30)]).seq ret) skip)))).seq (ops 0 [cO 17 (cM 5),cO 18 (cB .add (t 17) (cN 1)),cO 5 (cM 18)]))).loop)).seq ((block 2 ((ops 0 [cO 32 (cM 0),cO 33 (lenS (t 32)),cO 34 (cM 1),cO 35 (lenS (t 34)),cO 36 (cB .lss (t 33) (t 35)),cO 31 (cM 36)]).seq (C2.cond (t 31) ((ops 0 [cO 4 (mov (cN ((-1))))]).seq ret) ((ops 0 [cO 38 (cM 0),cO 39 (lenS (t 38)),cO 40 (cM 1),cO 41 (lenS (t 40)),cO 42 (cB .gtr (t 39) (t 41)),cO 37 (cM 42)]).seq (C2.cond (t 37) ((ops 0 [cO 4 (mov (cN 1))]).seq ret) skip))))).seq ((ops 0 [cO 4 (mov (cN 0))]).seq ret)))))
theorem A8:Is Tryz.prog 62 b62:=Is.mk' Tryz.func62 (by kernel_rfl)
def b63:F2:=(F2.mk 19 [RV.t 4] ((ops 0 [cO 4 (mov ax)]).seq (((ops 0 [cO 5 (mov (cN 0))]).seq (block 0 (((ops 0 [cO 6 (cM 5),cO 7 (cM 0),cO 8 (lenS (t 7)),cO 9 (cB .lss (t 6) (t 8))]).seq (C2.cond (t 9) skip (exit 0))).seq ((block 1 ((ops 0 [cO 12 (cM 1),cO 13 (cM 0),cO 14 (cM 5),cO 15 (ixaS 2 (t 13) (t 14)),cO 16 (ldn 2 (t 15)),cO 17 (call (cF 97) [t 12,t 16]),cO 18 (un UnOp.not (t 17))]).seq (C2.cond (t 18) ((ops 0 [cO 4 (mov ax)]).seq ret) skip))).seq (ops 0 [cO 10 (cM 5),cO 11 (cB .add (t 10) (cN 1)),cO 5 (cM 11)]))).loop)).seq ((ops 0 [cO 4 (mov aN)]).seq ret))))
theorem Bg:Is Tryz.prog 63 b63:=Is.mk' Tryz.func63 (by kernel_rfl)
def b64:F2:=(F2.mk 10 [RV.t 2] ((ops 0 [cO 2 (mov (c AV.esl))]).seq ((ops 0 [cO 4 (cM 0),cO 5 (call (cF 92) [t 4]),cO 3 (cM 5)]).seq ((ops 0 [cO 6 (cM 3),cO 7 (call (cF 69) [t 6,c (AV.func 98 [])])]).seq ((ops 0 [cO 8 (cM 3),cO 9 (call (cF 71) [t 8]),cO 2 (cM 9)]).seq ret)))))
theorem A5:Is Tryz.prog 64 b64:=Is.mk' Tryz.func64 (by kernel_rfl)
def b65:F2:=(F2.mk 33 [RV.t 2] ((ops 0 [cO 2 (mov (c AV.nilm))]).seq ((ops 0 [cO 8 (mkm none),cO 3 (cM 8)]).seq (((ops 0 [cO 9 (cM 0),cO 10 (lenS (t 9)),cO 11 (mov (cN 0))]).seq (block 0 ((ops 0 [cO 12 (cB .lss (t 11) (t 10))]).seq ((C2.cond (t 12) skip (exit 0)).seq ((block 1 ((ops 0 [cO 13 (cM 11),cO 14 (ixaS 1 (t 9) (t 11)),cO 15 (cD 14),cO 4 (cM 13),cO 5 (cM 15)]).seq ((ops 0 [cO 16 (cM 5),cO 17 (lenS (t 16)),cO 18 (mov (cN 0))]).seq (block 2 ((ops 0 [cO 19 (cB .lss (t 18) (t 17))]).seq ((C2.cond (t 19) skip (exit 2)).seq ((block 3 ((ops 0 [cO 20 (ixaS 2 (t 16) (t 18)),cO 21 (ldn 2 (t 20)),cO 7 (alloc (AV.agg [AV.int IntKind.i64 (0),AV.int IntKind.i64 (0)])),Op2.mk none none (Ins.st 2 (t 7) (t 21))]).seq (ops 0 [cO 22 (cM 3),cO 23 (ldn 2 (t 7)),cO 25 (cM 4),cO 26 (bldS 1 1 [AV.int IntKind.i64 (0)] [(0,1,t 25)]),cO 27 (mplc (MK.st [int,int]) AV.esl (t 22) (t 23)),cO 24 (ext (t 27) 0),cO 28 (app 1 8 (t 24) (t 26)),cO 29 (ext (t 27) 1),Op2.mk none none (mpst (t 22) (t 29) (t 28))]))).seq (ops 0 [cO 30 (cB .add (t 18) (cN 1)),cO 18 (cM 30)])))).loop)))).seq (ops 0 [cO 31 (cB .add (t 11) (cN 1)),cO 11 (cM 31)])))).loop)).seq ((ops 0 [cO 32 (cM 3),cO 2 (cM 32)]).seq ret)))))
theorem z9:Is Tryz.prog 65 b65:=Is.mk' Tryz.func65 (by kernel_rfl)
def b66:F2:=(F2.mk 10 [RV.t 6] ((ops 0 [cO 3 (box (t 0)),cO 5 (box (t 2)),cO 6 (mov ax)]).seq ((ops 0 [cO 7 (cM 1),cO 8 (mkfn 100 [t 3,t 5]),cO 9 (call (cF 99) [t 7,t 8]),cO 6 (cM 9)]).seq ret)))
theorem AR:Is Tryz.prog 66 b66:=Is.mk' Tryz.func66 (by kernel_rfl)
def b67:F2:=(F2.mk 21 [RV.t 2] ((ops 0 [cO 1 (box (t 0)),cO 2 (mov ax)]).seq ((ops 0 [cO 3 (fa 0 (t 1)),cO 4 (cD 3),cO 5 (cB .geq (t 4) (cN 0)),cO 6 (cM 5),cG 7 6 true (fa 0 (t 1)),cG 8 6 true (cD 7),cG 9 6 true (cB .lss (t 8) (cN 8)),cO 10 (pick (t 6) (t 9) ax),cO 11 (cM 10),cG 12 11 true (fa 1 (t 1)),cG 13 11 true (cD 12),cG 14 11 true (cB .geq (t 13) (cN 0)),cO 15 (pick (t 11) (t 14) ax),cO 16 (cM 15),cG 17 16 true (fa 1 (t 1)),cG 18 16 true (cD 17),cG 19 16 true (cB .leq (t 18) (cN 1048576)),cO 20 (pick (t 16) (t 19) ax),cO 2 (cM 20)]).seq ret)))
theorem AK:Is Tryz.prog 67 b67:=Is.mk' Tryz.func67 (by kernel_rfl)
def b68:F2:=(F2.mk 17 [RV.t 4] ((ops 0 [cO 2 (box (t 0)),cO 3 (box (t 1)),cO 4 (mov (cN 0))]).seq ((mixS 1 [cO 5 (fa 0 (t 2)),cO 6 (cD 5),cO 7 (fa 0 (t 3)),cO 8 (cD 7),cO 9 (call (cF 102) [t 6,t 8]),cO 10 (fa 1 (t 2)),cO 11 (cD 10),cO 12 (fa 1 (t 3)),cO 13 (cD 12),cO 14 (call (cF 102) [t 11,t 13]),cO 15 (bldS 1 2 [AV.int IntKind.i64 (0)] [(0,1,t 9),(1,1,t 14)]),cO 16 (call (cF 101) [t 15]),cO 4 (cM 16)] [(0,0),(1,0),(2,0),(3,0),(5,0),(6,0),(7,0),(8,0),(4,1),(9,2),(10,2),(11,2),(12,0)]).seq ret)))
theorem Az:Is Tryz.prog 68 b68:=Is.mk' Tryz.func68 (by kernel_rfl)
def b69:F2:=(F2.mk 14 [] ((ops 0 [cO 5 (cM 0),cO 6 (lenS (t 5)),cO 4 (cM 6)]).seq (ops 0 [cO 7 (cM 0),cO 8 (cM 4),cO 9 (cM 4),cO 10 (conv IntKind.u64 (t 9)),cO 11 (call (cF 104) [t 10]),cO 12 (cM 1),cO 13 (call (cF 103) [t 7,cN ((0)),t 8,t 11,t 12])])))
theorem zu:Is Tryz.prog 69 b69:=Is.mk' Tryz.func69 (by kernel_rfl)
def b70:F2:=(F2.mk 17 [RV.t 4] ((ops 0 [cO 2 (box (t 0)),cO 3 (box (t 1)),cO 4 (mov (cN 0))]).seq ((mixS 1 [cO 5 (fa 0 (t 2)),cO 6 (cD 5),cO 7 (fa 0 (t 3)),cO 8 (cD 7),cO 9 (call (cF 102) [t 6,t 8]),cO 10 (fa 1 (t 2)),cO 11 (cD 10),cO 12 (fa 1 (t 3)),cO 13 (cD 12),cO 14 (call (cF 102) [t 11,t 13]),cO 15 (bldS 1 2 [AV.int IntKind.i64 (0)] [(0,1,t 9),(1,1,t 14)]),cO 16 (call (cF 101) [t 15]),cO 4 (cM 16)] [(0,0),(1,0),(2,0),(3,0),(5,0),(6,0),(7,0),(8,0),(4,1),(9,2),(10,2),(11,2),(12,0)]).seq ret)))
theorem AS:Is Tryz.prog 70 b70:=Is.mk' Tryz.func70 (by kernel_rfl)
def b71:F2:=(F2.mk 61 [RV.t 2] ((ops 0 [cO 2 (mov (c AV.esl))]).seq (((ops 0 [cO 6 (cM 0),cO 7 (lenS (t 6)),cO 8 (cB .lss (t 7) (cN 2))]).seq (C2.cond (t 8) ((ops 0 [cO 9 (cM 0),cO 2 (cM 9)]).seq ret) skip)).seq (((ops 0 [cO 3 (mov (cN 1))]).seq (block 0 (((ops 0 [cO 10 (cM 3),cO 11 (cM 0),cO 12 (lenS (t 11)),cO 13 (cB .lss (t 10) (t 12))]).seq (C2.cond (t 13) skip (exit 0))).seq ((block 1 ((ops 1 [cO 16 (cM 0),cO 17 (cM 3),cO 18 (ixaS 2 (t 16) (t 17)),cO 19 (ldn 2 (t 18)),cO 20 (cM 0),cO 21 (cM 3),cO 22 (cB .sub (t 21) (cN 1)),cO 23 (ixaS 2 (t 20) (t 22)),cO 24 (ldn 2 (t 23)),cO 25 (binS BinOp.eql [int,int] (t 19) (t 24))]).seq (C2.cond (t 25) ((ops 0 [cO 26 (cM 0),cO 27 (cM 3),cO 28 (sls 2 (t 26) (some (t 27)) none none),cO 4 (cM 28)]).seq (((ops 0 [cO 5 (mov (cN 1))]).seq (block 2 (((ops 0 [cO 29 (cM 5),cO 30 (cM 4),cO 31 (lenS (t 30)),cO 32 (cB .lss (t 29) (t 31))]).seq (C2.cond (t 32) skip (exit 2))).seq ((block 3 ((ops 1 [cO 35 (cM 4),cO 36 (cM 5),cO 37 (ixaS 2 (t 35) (t 36)),cO 38 (ldn 2 (t 37)),cO 39 (cM 4),cO 40 (cM 5),cO 41 (cB .sub (t 40) (cN 1)),cO 42 (ixaS 2 (t 39) (t 41)),cO 43 (ldn 2 (t 42)),cO 44 (binS BinOp.neq [int,int] (t 38) (t 43))]).seq (C2.cond (t 44) ((ops 0 [cO 45 (cM 0),cO 46 (cM 3),cO 47 (cM 4),cO 48 (cM 5),cO 49 (ixaS 2 (t 47) (t 48)),cO 50 (ldn 2 (t 49)),cO 51 (ixaS 2 (t 45) (t 46)),Op2.mk none none (Ins.st 2 (t 51) (t 50))]).seq (ops 0 [cO 52 (cM 3),cO 53 (cB .add (t 52) (cN 1)),cO 3 (cM 53)])) skip))).seq (ops 0 [cO 33 (cM 5),cO 34 (cB .add (t 33) (cN 1)),cO 5 (cM 34)]))).loop)).seq ((ops 0 [cO 54 (cM 0),cO 55 (cM 3),cO 56 (sls 2 (t 54) (some (t 55)) none none),Op2.mk none none (clr 2 (AV.agg [AV.int IntKind.i64 (0),AV.int IntKind.i64 (0)]) (t 56))]).seq ((ops 0 [cO 57 (cM 0),cO 58 (cM 3),cO 59 (sls 2 (t 57) none (some (t 58)) none),cO 2 (cM 59)]).seq ret)))) skip))).seq (ops 0 [cO 14 (cM 3),cO 15 (cB .add (t 14) (cN 1)),cO 3 (cM 15)]))).loop)).seq ((ops 0 [cO 60 (cM 0),cO 2 (cM 60)]).seq ret)))))
theorem yx:Is Tryz.prog 71 b71:=Is.mk' Tryz.func71 (by kernel_rfl)
def b72:F2:=(F2.mk 23 [RV.t 4] ((ops 0 [cO 4 (mov (c AV.esl))]).seq ((ops 0 [cO 5 (mov (c AV.esl))]).seq (((ops 0 [cO 8 (cM 0),cO 9 (lenS (t 8)),cO 10 (mov (cN 0))]).seq (block 0 ((ops 0 [cO 11 (cB .lss (t 10) (t 9))]).seq ((C2.cond (t 11) skip (exit 0)).seq ((block 1 ((ops 0 [cO 12 (ixaS 1 (t 8) (t 10)),cO 13 (cD 12),cO 7 (cM 13)]).seq ((ops 0 [cO 14 (cM 1),cO 15 (cM 7),cO 16 (call (t 14) [t 15])]).seq (C2.cond (t 16) (ops 0 [cO 17 (cM 5),cO 18 (cM 7),cO 19 (bldS 1 1 [AV.esl] [(0,1,t 18)]),cO 20 (app 1 24 (t 17) (t 19)),cO 5 (cM 20)]) skip)))).seq (ops 0 [cO 21 (cB .add (t 10) (cN 1)),cO 10 (cM 21)])))).loop)).seq ((ops 0 [cO 22 (cM 5),cO 4 (cM 22)]).seq ret)))))
theorem Aw:Is Tryz.prog 72 b72:=Is.mk' Tryz.func72 (by kernel_rfl)
def b73:F2:=(F2.mk 7 [RV.t 3] ((ops 0 [cO 3 (mov ax)]).seq ((ops 0 [cO 4 (cD 1),cO 5 (cM 0),cO 6 (call (cF 74) [t 4,t 5]),cO 3 (cM 6)]).seq ret)))
theorem Am:Is Tryz.prog 73 b73:=Is.mk' Tryz.func73 (by kernel_rfl)
def b74:F2:=(F2.mk 29 [RV.t 4] ((ops 0 [cO 4 (mov ax)]).seq (((ops 0 [cO 7 (cM 0),cO 8 (lenS (t 7)),cO 9 (mov (cN 0))]).seq (block 0 ((ops 0 [cO 10 (cB .lss (t 9) (t 8))]).seq ((C2.cond (t 10) skip (exit 0)).seq ((block 1 ((ops 0 [cO 11 (ixaS 2 (t 7) (t 9)),cO 12 (ldn 2 (t 11)),cO 6 (alloc (AV.agg [AV.int IntKind.i64 (0),AV.int IntKind.i64 (0)])),Op2.mk none none (Ins.st 2 (t 6) (t 12))]).seq ((block 2 (((ops 1 [cO 13 (cM 1),cO 14 (lenS (t 13)),cO 15 (cB .gtr (t 14) (cN 0)),cO 16 (cM 15),cG 17 16 true (cM 1),cG 18 16 true (ixaS 2 (t 17) (cN 0)),cG 19 16 true (ldn 2 (t 18)),cG 20 16 true (ldn 2 (t 6)),cG 21 16 true (binS BinOp.neq [int,int] (t 19) (t 20)),cO 22 (pick (t 16) (t 21) ax)]).seq (C2.cond (t 22) skip (exit 2))).seq (block 3 (ops 0 [cO 23 (cM 1),cO 24 (sls 2 (t 23) (some (cN 1)) none none),cO 1 (cM 24)]))).loop).seq ((ops 0 [cO 25 (cM 1),cO 26 (lenS (t 25)),cO 27 (cB .eql (t 26) (cN 0))]).seq (C2.cond (t 27) ((ops 0 [cO 4 (mov ax)]).seq ret) skip))))).seq (ops 0 [cO 28 (cB .add (t 9) (cN 1)),cO 9 (cM 28)])))).loop)).seq ((ops 0 [cO 4 (mov aN)]).seq ret))))
theorem zU:Is Tryz.prog 74 b74:=Is.mk' Tryz.func74 (by kernel_rfl)
def b75:F2:=(F2.mk 8 [RV.t 2] ((ops 0 [cO 2 (mov (c AV.esl))]).seq (((ops 0 [cO 3 (cM 0),cO 4 (snil false (t 3))]).seq (C2.cond (t 4) ((ops 0 [cO 2 (mov (c AV.esl))]).seq ret) skip)).seq ((ops 0 [cO 5 (bldS 1 0 [AV.esl] []),cO 6 (cM 0),cO 7 (app 1 24 (t 5) (t 6)),cO 2 (cM 7)]).seq ret))))
theorem zV:Is Tryz.prog 75 b75:=Is.mk' Tryz.func75 (by kernel_rfl)
def b76:F2:=(F2.mk 14 [] ((ops 0 [cO 5 (cM 0),cO 6 (lenS (t 5)),cO 4 (cM 6)]).seq (ops 0 [cO 7 (cM 0),cO 8 (cM 4),cO 9 (cM 4),cO 10 (conv IntKind.u64 (t 9)),cO 11 (call (cF 104) [t 10]),cO 12 (cM 1),cO 13 (call (cF 105) [t 7,cN ((0)),t 8,t 11,t 12])])))
theorem yU:Is Tryz.prog 76 b76:=Is.mk' Tryz.func76 (by kernel_rfl)
def b77:F2:=(F2.mk 66 [RV.t 4] ((ops 0 [cO 4 (mov (c AV.esl))]).seq (((ops 0 [cO 8 (cM 0),cO 9 (lenS (t 8)),cO 10 (cB .lss (t 9) (cN 2))]).seq (C2.cond (t 10) ((ops 0 [cO 11 (cM 0),cO 4 (cM 11)]).seq ret) skip)).seq (((ops 0 [cO 5 (mov (cN 1))]).seq (block 0 (((ops 0 [cO 12 (cM 5),cO 13 (cM 0),cO 14 (lenS (t 13)),cO 15 (cB .lss (t 12) (t 14))]).seq (C2.cond (t 15) skip (exit 0))).seq ((block 1 ((mixS 1 [cO 18 (cM 1),cO 19 (cM 0),cO 20 (cM 5),cO 21 (ixaS 1 (t 19) (t 20)),cO 22 (cD 21),cO 23 (cM 0),cO 24 (cM 5),cO 25 (cB .sub (t 24) (cN 1)),cO 26 (ixaS 1 (t 23) (t 25)),cO 27 (cD 26),cO 28 (call (t 18) [t 22,t 27])] [(0,0),(1,0),(2,0),(3,0),(4,0),(5,0),(6,0),(7,0),(8,0),(9,0),(10,2)]).seq (C2.cond (t 28) ((ops 0 [cO 29 (cM 0),cO 30 (cM 5),cO 31 (sls 1 (t 29) (some (t 30)) none none),cO 6 (cM 31)]).seq (((ops 0 [cO 7 (mov (cN 1))]).seq (block 2 (((ops 0 [cO 32 (cM 7),cO 33 (cM 6),cO 34 (lenS (t 33)),cO 35 (cB .lss (t 32) (t 34))]).seq (C2.cond (t 35) skip (exit 2))).seq ((block 3 ((mixS 1 [cO 38 (cM 1),cO 39 (cM 6),cO 40 (cM 7),cO 41 (ixaS 1 (t 39) (t 40)),cO 42 (cD 41),cO 43 (cM 6),cO 44 (cM 7),cO 45 (cB .sub (t 44) (cN 1)),cO 46 (ixaS 1 (t 43) (t 45)),cO 47 (cD 46),cO 48 (call (t 38) [t 42,t 47]),cO 49 (un UnOp.not (t 48))] [(0,0),(1,0),(2,0),(3,0),(4,0),(5,0),(6,0),(7,0),(8,0),(9,0),(10,2),(11,0)]).seq (C2.cond (t 49) ((ops 0 [cO 50 (cM 0),cO 51 (cM 5),cO 52 (cM 6),cO 53 (cM 7),cO 54 (ixaS 1 (t 52) (t 53)),cO 55 (cD 54),cO 56 (ixaS 1 (t 50) (t 51)),Op2.mk none none (Ins.st 1 (t 56) (t 55))]).seq (ops 0 [cO 57 (cM 5),cO 58 (cB .add (t 57) (cN 1)),cO 5 (cM 58)])) skip))).seq (ops 0 [cO 36 (cM 7),cO 37 (cB .add (t 36) (cN 1)),cO 7 (cM 37)]))).loop)).seq ((ops 0 [cO 59 (cM 0),cO 60 (cM 5),cO 61 (sls 1 (t 59) (some (t 60)) none none),Op2.mk none none (clr 1 AV.esl (t 61))]).seq ((ops 0 [cO 62 (cM 0),cO 63 (cM 5),cO 64 (sls 1 (t 62) none (some (t 63)) none),cO 4 (cM 64)]).seq ret)))) skip))).seq (ops 0 [cO 16 (cM 5),cO 17 (cB .add (t 16) (cN 1)),cO 5 (cM 17)]))).loop)).seq ((ops 0 [cO 65 (cM 0),cO 4 (cM 65)]).seq ret)))))
theorem za:Is Tryz.prog 77 b77:=Is.mk' Tryz.func77 (by kernel_rfl)
def b78:F2:=(F2.mk 19 [RV.t 4] ((ops 0 [cO 4 (mov (cN 0))]).seq (((ops 0 [cO 6 (cM 0),cO 7 (lenS (t 6)),cO 8 (mov (cN 0))]).seq (block 0 ((ops 0 [cO 9 (cB .lss (t 8) (t 7))]).seq ((C2.cond (t 9) skip (exit 0)).seq ((block 1 ((ops 0 [cO 10 (cM 8),cO 5 (cM 10)]).seq ((ops 0 [cO 11 (cM 1),cO 12 (cM 0),cO 13 (cM 5),cO 14 (ixaS 2 (t 12) (t 13)),cO 15 (ldn 2 (t 14)),cO 16 (call (t 11) [t 15])]).seq (C2.cond (t 16) ((ops 0 [cO 17 (cM 5),cO 4 (cM 17)]).seq ret) skip)))).seq (ops 0 [cO 18 (cB .add (t 8) (cN 1)),cO 8 (cM 18)])))).loop)).seq ((ops 0 [cO 4 (mov (cN ((-1))))]).seq ret))))
theorem Bw:Is Tryz.prog 78 b78:=Is.mk' Tryz.func78 (by kernel_rfl)
def b79:F2:=(F2.mk 19 [RV.t 4] ((ops 0 [cO 3 (box (t 1)),cO 4 (mov (cN 0))]).seq (((ops 0 [cO 6 (cM 0),cO 7 (lenS (t 6)),cO 8 (mov (cN 0))]).seq (block 0 ((ops 0 [cO 9 (cB .lss (t 8) (t 7))]).seq ((C2.cond (t 9) skip (exit 0)).seq ((block 1 ((ops 0 [cO 10 (cM 8),cO 5 (cM 10)]).seq ((ops 1 [cO 11 (ldn 2 (t 3)),cO 12 (cM 0),cO 13 (cM 5),cO 14 (ixaS 2 (t 12) (t 13)),cO 15 (ldn 2 (t 14)),cO 16 (binS BinOp.eql [int,int] (t 11) (t 15))]).seq (C2.cond (t 16) ((ops 0 [cO 17 (cM 5),cO 4 (cM 17)]).seq ret) skip)))).seq (ops 0 [cO 18 (cB .add (t 8) (cN 1)),cO 8 (cM 18)])))).loop)).seq ((ops 0 [cO 4 (mov (cN ((-1))))]).seq ret))))
theorem z6:Is Tryz.prog 79 b79:=Is.mk' Tryz.func79 (by kernel_rfl)
def b80:F2:=(F2.mk 19 [RV.t 4] ((ops 0 [cO 4 (mov (cN 0))]).seq (((ops 0 [cO 6 (cM 0),cO 7 (lenS (t 6)),cO 8 (mov (cN 0))]).seq (block 0 ((ops 0 [cO 9 (cB .lss (t 8) (t 7))]).seq ((C2.cond (t 9) skip (exit 0)).seq ((block 1 ((ops 0 [cO 10 (cM 8),cO 5 (cM 10)]).seq ((ops 0 [cO 11 (cM 1),cO 12 (cM 0),cO 13 (cM 5),cO 14 (ixaS 1 (t 12) (t 13)),cO 15 (cD 14),cO 16 (call (t 11) [t 15])]).seq (C2.cond (t 16) ((ops 0 [cO 17 (cM 5),cO 4 (cM 17)]).seq ret) skip)))).seq (ops 0 [cO 18 (cB .add (t 8) (cN 1)),cO 8 (cM 18)])))).loop)).seq ((ops 0 [cO 4 (mov (cN ((-1))))]).seq ret))))
theorem Bn:Is Tryz.prog 80 b80:=Is.mk' Tryz.func80 (by kernel_rfl)
def b81:F2:=(F2.mk 18 [RV.t 2] ((ops 0 [cO 2 (mov (cN 0))]).seq ((ops 0 [cO 3 (mov (cN 0))]).seq (((ops 0 [cO 6 (cM 0),cO 7 (lenS (t 6)),cO 8 (mov (cN 0))]).seq (block 0 ((ops 0 [cO 9 (cB .lss (t 8) (t 7))]).seq ((C2.cond (t 9) skip (exit 0)).seq ((block 1 ((ops 0 [cO 10 (ixaS 1 (t 6) (t 8)),cO 11 (cD 10),cO 5 (cM 11)]).seq ((ops 0 [cO 12 (cM 5),cO 13 (cM 3),cO 14 (cB .neq (t 12) (t 13))]).seq (C2.cond (t 14) ((ops 0 [cO 15 (cM 5),cO 2 (cM 15)]).seq ret) skip)))).seq (ops 0 [cO 16 (cB .add (t 8) (cN 1)),cO 8 (cM 16)])))).loop)).seq ((ops 0 [cO 17 (cM 3),cO 2 (cM 17)]).seq ret)))))
theorem A7:Is Tryz.prog 81 b81:=Is.mk' Tryz.func81 (by kernel_rfl)
def b82:F2:=(F2.mk 7 [RV.t 3] ((ops 0 [cO 2 (box (t 0)),cO 3 (mov ax)]).seq ((ops 0 [cO 4 (cD 1),cO 5 (ldn 2 (t 2)),cO 6 (call (cF 37) [t 4,t 5]),cO 3 (cM 6)]).seq ret)))
theorem Br:Is Tryz.prog 82 b82:=Is.mk' Tryz.func82 (by kernel_rfl)
def b83:F2:=(F2.mk 21 [RV.t 2] ((ops 0 [cO 1 (box (t 0)),cO 2 (mov ax)]).seq ((ops 0 [cO 3 (fa 0 (t 1)),cO 4 (cD 3),cO 5 (cB .geq (t 4) (cN 0)),cO 6 (cM 5),cG 7 6 true (fa 0 (t 1)),cG 8 6 true (cD 7),cG 9 6 true (cB .lss (t 8) (cN 8)),cO 10 (pick (t 6) (t 9) ax),cO 11 (cM 10),cG 12 11 true (fa 1 (t 1)),cG 13 11 true (cD 12),cG 14 11 true (cB .geq (t 13) (cN 0)),cO 15 (pick (t 11) (t 14) ax),cO 16 (cM 15),cG 17 16 true (fa 1 (t 1)),cG 18 16 true (cD 17),cG 19 16 true (cB .leq (t 18) (cN 1048576)),cO 20 (pick (t 16) (t 19) ax),cO 2 (cM 20)]).seq ret)))
theorem Ay:Is Tryz.prog 83 b83:=Is.mk' Tryz.func83 (by kernel_rfl)
def b87:F2:=(F2.mk 39 [RV.t 6] ((ops 0 [cO 6 (mov (cN 0))]).seq (((ops 0 [cO 11 (cM 0),cO 12 (lenS (t 11)),cO 13 (mov (cN 0))]).seq (block 0 ((ops 0 [cO 14 (cB .lss (t 13) (t 12))]).seq ((C2.cond (t 14) skip (exit 0)).seq ((block 1 ((ops 0 [cO 15 (cM 13),cO 16 (ixaS 2 (t 11) (t 13)),cO 17 (ldn 2 (t 16)),cO 8 (alloc (AV.agg [AV.int IntKind.i64 (0),AV.int IntKind.i64 (0)])),cO 7 (cM 15),Op2.mk none none (Ins.st 2 (t 8) (t 17))]).seq (((ops 0 [cO 18 (cM 7),cO 19 (cM 1),cO 20 (lenS (t 19)),cO 21 (cB .geq (t 18) (t 20))]).seq (C2.cond (t 21) ((ops 0 [cO 6 (mov (cN 1))]).seq ret) skip)).seq ((ops 0 [cO 22 (cM 1),cO 23 (cM 7),cO 24 (ixaS 2 (t 22) (t 23)),cO 25 (ldn 2 (t 24)),cO 9 (alloc (AV.agg [AV.int IntKind.i64 (0),AV.int IntKind.i64 (0)])),Op2.mk none none (Ins.st 2 (t 9) (t 25))]).seq ((ops 0 [cO 26 (cM 2),cO 27 (ldn 2 (t 8)),cO 28 (ldn 2 (t 9)),cO 29 (call (t 26) [t 27,t 28]),cO 10 (cM 29)]).seq ((ops 0 [cO 30 (cM 10),cO 31 (cB .neq (t 30) (cN 0))]).seq (C2.cond (t 31) ((ops 0 [cO 32 (cM 10),cO 6 (cM 32)]).seq ret) skip))))))).seq (ops 0 [cO 33 (cB .add (t 13) (cN 1)),cO 13 (cM 33)])))).loop)).seq (((ops 0 [cO 34 (cM 0),cO 35 (lenS (t 34)),cO 36 (cM 1),cO 37 (lenS (t 36)),cO 38 (cB .lss (t 35) (t 37))]).seq (C2.cond (t 38) ((ops 0 [cO 6 (mov (cN ((-1))))]).seq ret) skip)).seq ((ops 0 [cO 6 (mov (cN 0))]).seq ret)))))
theorem Ar:Is Tryz.prog 87 b87:=Is.mk' Tryz.func87 (by kernel_rfl)
def b92:F2:=(F2.mk 36 [RV.t 2] ((ops 0 [cO 2 (mov (c AV.esl))]).seq ((ops 0 [cO 3 (mov (cN 0))]).seq (((ops 0 [cO 9 (cM 0),cO 10 (lenS (t 9)),cO 11 (mov (cN 0))]).seq (block 0 ((ops 0 [cO 12 (cB .lss (t 11) (t 10))]).seq ((C2.cond (t 12) skip (exit 0)).seq ((block 1 ((ops 0 [cO 13 (ixaS 1 (t 9) (t 11)),cO 14 (cD 13),cO 5 (cM 14)]).seq ((ops 0 [cO 15 (cM 3),cO 16 (cM 5),cO 17 (lenS (t 16)),cO 18 (cB .add (t 15) (t 17)),cO 3 (cM 18)]).seq ((ops 0 [cO 19 (cM 3),cO 20 (cB .lss (t 19) (cN 0))]).seq (C2.cond (t 20) (ops 0 [cO 21 dead,Op2.mk none none dead]) skip))))).seq (ops 0 [cO 22 (cB .add (t 11) (cN 1)),cO 11 (cM 22)])))).loop)).seq ((ops 0 [cO 23 (cM 3),cO 24 (call (cF 109) [c AV.esl,t 23]),cO 6 (cM 24)]).seq (((ops 0 [cO 25 (cM 0),cO 26 (lenS (t 25)),cO 27 (mov (cN 0))]).seq (block 2 ((ops 0 [cO 28 (cB .lss (t 27) (t 26))]).seq ((C2.cond (t 28) skip (exit 2)).seq ((block 3 ((ops 0 [cO 29 (ixaS 1 (t 25) (t 27)),cO 30 (cD 29),cO 8 (cM 30)]).seq (ops 0 [cO 31 (cM 6),cO 32 (cM 8),cO 33 (app 2 16 (t 31) (t 32)),cO 6 (cM 33)]))).seq (ops 0 [cO 34 (cB .add (t 27) (cN 1)),cO 27 (cM 34)])))).loop)).seq ((ops 0 [cO 35 (cM 6),cO 2 (cM 35)]).seq ret)))))))
theorem AE:Is Tryz.prog 92 b92:=Is.mk' Tryz.func92 (by kernel_rfl)
def b93:F2:=(F2.mk 23 [RV.t 4] ((ops 0 [cO 4 (mov (c AV.esl))]).seq ((ops 0 [cO 5 (mov (c AV.esl))]).seq (((ops 0 [cO 8 (cM 0),cO 9 (lenS (t 8)),cO 10 (mov (cN 0))]).seq (block 0 ((ops 0 [cO 11 (cB .lss (t 10) (t 9))]).seq ((C2.cond (t 11) skip (exit 0)).seq ((block 1 ((ops 0 [cO 12 (ixaS 2 (t 8) (t 10)),cO 13 (ldn 2 (t 12)),cO 7 (alloc (AV.agg [AV.int IntKind.i64 (0),AV.int IntKind.i64 (0)])),Op2.mk none none (Ins.st 2 (t 7) (t 13))]).seq ((ops 0 [cO 14 (cM 1),cO 15 (ldn 2 (t 7)),cO 16 (call (t 14) [t 15])]).seq (C2.cond (t 16) (ops 0 [cO 17 (cM 5),cO 18 (ldn 2 (t 7)),cO 19 (bldS 2 1 [AV.int IntKind.i64 (0),AV.int IntKind.i64 (0)] [(0,2,t 18)]),cO 20 (app 2 16 (t 17) (t 19)),cO 5 (cM 20)]) skip)))).seq (ops 0 [cO 21 (cB .add (t 10) (cN 1)),cO 10 (cM 21)])))).loop)).seq ((ops 0 [cO 22 (cM 5),cO 4 (cM 22)]).seq ret)))))
theorem Bu:Is Tryz.prog 93 b93:=Is.mk' Tryz.func93 (by kernel_rfl)
def b94:F2:=(F2.mk 6 [RV.t 2] ((ops 0 [cO 2 (mov ax)]).seq ((ops 0 [cO 3 (cM 0),cO 4 (lenS (t 3)),cO 5 (cB .leq (t 4) (cN 10)),cO 2 (cM 5)]).seq ret)))
theorem Bc:Is Tryz.prog 94 b94:=Is.mk' Tryz.func94 (by kernel_rfl)
def b95:F2:=(F2.mk 21 [RV.t 2] ((ops 0 [cO 1 (box (t 0)),cO 2 (mov ax)]).seq ((ops 0 [cO 3 (fa 0 (t 1)),cO 4 (cD 3),cO 5 (cB .geq (t 4) (cN 0)),cO 6 (cM 5),cG 7 6 true (fa 0 (t 1)),cG 8 6 true (cD 7),cG 9 6 true (cB .lss (t 8) (cN 8)),cO 10 (pick (t 6) (t 9) ax),cO 11 (cM 10),cG 12 11 true (fa 1 (t 1)),cG 13 11 true (cD 12),cG 14 11 true (cB .geq (t 13) (cN 0)),cO 15 (pick (t 11) (t 14) ax),cO 16 (cM 15),cG 17 16 true (fa 1 (t 1)),cG 18 16 true (cD 17),cG 19 16 true (cB .leq (t 18) (cN 1048576)),cO 20 (pick (t 16) (t 19) ax),cO 2 (cM 20)]).seq ret)))
theorem BA:Is Tryz.prog 95 b95:=Is.mk' Tryz.func95 (by kernel_rfl)
def b96:F2:=(F2.mk 29 [RV.t 4] ((ops 0 [cO 2 (box (t 0)),cO 3 (box (t 1)),cO 4 (mov (cN 0))]).seq ((block 0 ((ops 0 [cO 6 (fa 0 (t 2)),cO 7 (cD 6),cO 8 (fa 0 (t 3)),cO 9 (cD 8),cO 10 (cB .lss (t 7) (t 9)),cO 5 (cM 10)]).seq (C2.cond (t 5) ((ops 0 [cO 4 (mov (cN ((-1))))]).seq ret) ((ops 0 [cO 12 (fa 0 (t 2)),cO 13 (cD 12),cO 14 (fa 0 (t 3)),cO 15 (cD 14),cO 16 (cB .gtr (t 13) (t 15)),cO 11 (cM 16)]).seq (C2.cond (t 11) ((ops 0 [cO 4 (mov (cN 1))]).seq ret) ((ops 0 [cO 18 (fa 1 (t 2)),cO 19 (cD 18),cO 20 (fa 1 (t 3)),cO 21 (cD 20),cO 22 (cB .lss (t 19) (t 21)),cO 17 (cM 22)]).seq (C2.cond (t 17) ((ops 0 [cO 4 (mov (cN ((-1))))]).seq ret) ((ops 0 [cO 24 (fa 1 (t 2)),cO 25 (cD 24),cO 26 (fa 1 (t 3)),cO 27 (cD 26),cO 28 (cB .gtr (t 25) (t 27)),cO 23 (cM 28)]).seq (C2.cond (t 23) ((ops 0 [cO 4 (mov (cN 1))]).seq ret) skip))))))))).seq ((ops 0 [cO 4 (mov (cN 0))]).seq ret))))
theorem Bp:Is Tryz.prog 96 b96:=Is.mk' Tryz.func96 (by kernel_rfl)
def b97:F2:=(F2.mk 18 [RV.t 4] ((ops 0 [cO 3 (box (t 1)),cO 4 (mov ax)]).seq (((ops 0 [cO 5 (mov (cN 0))]).seq (block 0 (((ops 0 [cO 6 (cM 5),cO 7 (cM 0),cO 8 (lenS (t 7)),cO 9 (cB .lss (t 6) (t 8))]).seq (C2.cond (t 9) skip (exit 0))).seq ((block 1 ((ops 1 [cO 12 (cM 0),cO 13 (cM 5),cO 14 (ixaS 2 (t 12) (t 13)),cO 15 (ldn 2 (t 14)),cO 16 (ldn 2 (t 3)),cO 17 (binS BinOp.eql [int,int] (t 15) (t 16))]).seq (C2.cond (t 17) ((ops 0 [cO 4 (mov aN)]).seq ret) skip))).seq (ops 0 [cO 10 (cM 5),cO 11 (cB .add (t 10) (cN 1)),cO 5 (cM 11)]))).loop)).seq ((ops 0 [cO 4 (mov ax)]).seq ret))))
theorem Bk:Is Tryz.prog 97 b97:=Is.mk' Tryz.func97 (by kernel_rfl)
def b98:F2:=(F2.mk 10 [RV.t 4] ((ops 0 [cO 2 (box (t 0)),cO 3 (box (t 1)),cO 4 (mov (cN 0))]).seq ((ops 0 [cO 5 (ldn 2 (t 2)),cO 6 (bldS 2 1 [AV.int IntKind.i64 (0),AV.int IntKind.i64 (0)] [(0,2,t 5)]),cO 7 (ldn 2 (t 3)),cO 8 (bldS 2 1 [AV.int IntKind.i64 (0),AV.int IntKind.i64 (0)] [(0,2,t 7)]),cO 9 (call (cF 49) [t 6,t 8]),cO 4 (cM 9)]).seq ret)))
theorem Bz:Is Tryz.prog 98 b98:=Is.mk' Tryz.func98 (by kernel_rfl)
def b99:F2:=(F2.mk 9 [RV.t 4] ((ops 0 [cO 4 (mov ax)]).seq ((ops 0 [cO 5 (cM 0),cO 6 (cM 1),cO 7 (call (cF 110) [t 5,t 6]),cO 8 (cB .geq (t 7) (cN 0)),cO 4 (cM 8)]).seq ret)))
theorem Ac:Is Tryz.prog 99 b99:=Is.mk' Tryz.func99 (by kernel_rfl)
def yP:F2:=(F2.mk 21 [RV.t 4] ((ops 0 [cO 4 (mov ax)]).seq ((mixS 1 [cO 5 (cD 1),cO 6 (cM 0),cO 7 (ixaS 1 (t 5) (t 6)),cO 8 (cD 7),cO 9 (lenS (t 8)),cO 10 (cD 2),cO 11 (lenS (t 10)),cO 12 (cB .gtr (t 9) (t 11)),cO 13 (cM 12),cG 14 13 true (cD 2),cG 15 13 true (cD 1),cG 16 13 true (cM 0),cG 17 13 true (ixaS 1 (t 15) (t 16)),cG 18 13 true (cD 17),cG 19 13 true (call (cF 74) [t 14,t 18]),cO 20 (pick (t 13) (t 19) ax),cO 4 (cM 20)] [(0,0),(1,0),(2,0),(3,0),(4,0),(5,0),(6,0),(7,0),(8,0),(9,0),(10,0),(11,0),(12,0),(13,0),(14,2),(15,0),(16,0)]).seq ret)))
theorem xJ:Is Tryz.prog 100 yP:=Is.mk' Tryz.func100 (by kernel_rfl)
def y5:F2:=(F2.mk 18 [RV.t 2] ((ops 0 [cO 2 (mov (cN 0))]).seq ((ops 0 [cO 3 (mov (cN 0))]).seq (((ops 0 [cO 6 (cM 0),cO 7 (lenS (t 6)),cO 8 (mov (cN 0))]).seq (block 0 ((ops 0 [cO 9 (cB .lss (t 8) (t 7))]).seq ((C2.cond (t 9) skip (exit 0)).seq ((block 1 ((ops 0 [cO 10 (ixaS 1 (t 6) (t 8)),cO 11 (cD 10),cO 5 (cM 11)]).seq ((ops 0 [cO 12 (cM 5),cO 13 (cM 3),cO 14 (cB .neq (t 12) (t 13))]).seq (C2.cond (t 14) ((ops 0 [cO 15 (cM 5),cO 2 (cM 15)]).seq ret) skip)))).seq (ops 0 [cO 16 (cB .add (t 8) (cN 1)),cO 8 (cM 16)])))).loop)).seq ((ops 0 [cO 17 (cM 3),cO 2 (cM 17)]).seq ret)))))
theorem xM:Is Tryz.prog 101 y5:=Is.mk' Tryz.func101 (by kernel_rfl)
def zf:F2:=(F2.mk 20 [RV.t 4] ((ops 0 [cO 4 (mov (cN 0))]).seq ((ops 0 [cO 7 (cM 0),cO 8 (call (cF 111) [t 7]),cO 5 (cM 8)]).seq ((ops 0 [cO 9 (cM 1),cO 10 (call (cF 111) [t 9]),cO 6 (cM 10)]).seq (((ops 0 [cO 11 (cM 5)]).seq (C2.cond (t 11) (((ops 0 [cO 12 (cM 6)]).seq (C2.cond (t 12) ((ops 0 [cO 4 (mov (cN 0))]).seq ret) skip)).seq ((ops 0 [cO 4 (mov (cN ((-1))))]).seq ret)) skip)).seq (((ops 0 [cO 13 (cM 6)]).seq (C2.cond (t 13) ((ops 0 [cO 4 (mov (cN 1))]).seq ret) skip)).seq (((ops 0 [cO 14 (cM 0),cO 15 (cM 1),cO 16 (cB .lss (t 14) (t 15))]).seq (C2.cond (t 16) ((ops 0 [cO 4 (mov (cN ((-1))))]).seq ret) skip)).seq (((ops 0 [cO 17 (cM 0),cO 18 (cM 1),cO 19 (cB .gtr (t 17) (t 18))]).seq (C2.cond (t 19) ((ops 0 [cO 4 (mov (cN 1))]).seq ret) skip)).seq ((ops 0 [cO 4 (mov (cN 0))]).seq ret)))))))))
theorem xY:Is Tryz.prog 102 zf:=Is.mk' Tryz.func102 (by kernel_rfl)
def wJ:F2:=(F2.mk 148 [] ((ops 0 [cO 10 (mov aN)]).seq ((ops 0 [cO 11 (mov aN)]).seq (block 0 (block 1 ((ops 0 [cO 21 (cM 2),cO 22 (cM 1),cO 23 (cB .sub (t 21) (t 22)),cO 12 (cM 23)]).seq (((ops 0 [cO 24 (cM 12),cO 25 (cB .leq (t 24) (cN 12))]).seq (C2.cond (t 25) ((ops 0 [cO 26 (cM 0),cO 27 (cM 1),cO 28 (cM 2),cO 29 (cM 4),cO 30 (call (cF 112) [t 26,t 27,t 28,t 29])]).seq ret) skip)).seq (((ops 0 [cO 31 (cM 3),cO 32 (cB .eql (t 31) (cN 0))]).seq (C2.cond (t 32) ((ops 0 [cO 33 (cM 0),cO 34 (cM 1),cO 35 (cM 2),cO 36 (cM 4),cO 37 (call (cF 113) [t 33,t 34,t 35,t 36])]).seq ret) skip)).seq (((ops 0 [cO 38 (cM 10),cO 39 (un UnOp.not (t 38))]).seq (C2.cond (t 39) ((ops 0 [cO 40 (cM 0),cO 41 (cM 1),cO 42 (cM 2),cO 43 (cM 4),cO 44 (call (cF 114) [t 40,t 41,t 42,t 43])]).seq (ops 0 [cO 45 (cM 3),cO 46 (cB .sub (t 45) (cN 1)),cO 3 (cM 46)])) skip)).seq ((ops 0 [cO 48 (cM 0),cO 49 (cM 1),cO 50 (cM 2),cO 51 (cM 4),cO 52 (call (cF 115) [t 48,t 49,t 50,t 51]),cO 47 (cM 52),cO 53 (ext (t 47) 0),cO 54 (ext (t 47) 1),cO 13 (cM 53),cO 14 (cM 54)]).seq (((ops 0 [cO 55 (cM 14),cO 56 (cB .eql (t 55) (cN 2))]).seq (C2.cond (t 56) ((ops 0 [cO 57 (cM 0),cO 58 (cM 1),cO 59 (cM 2),cO 60 (cM 4),cO 61 (call (cF 116) [t 57,t 58,t 59,t 60])]).seq ((ops 0 [cO 62 (cM 2),cO 63 (cB .sub (t 62) (cN 1)),cO 64 (cM 13),cO 65 (cM 1),cO 66 (cB .sub (t 64) (t 65)),cO 67 (cB .sub (t 63) (t 66)),cO 13 (cM 67)]).seq (ops 0 [cO 14 (mov (cN 1))]))) skip)).seq (((ops 0 [cO 68 (cM 10),cO 69 (cM 68),cG 70 69 true (cM 11),cO 71 (pick (t 69) (t 70) ax),cO 72 (cM 71),cG 73 72 true (cM 14),cG 74 72 true (cB .eql (t 73) (cN 1)),cO 75 (pick (t 72) (t 74) ax)]).seq (C2.cond (t 75) ((ops 0 [cO 76 (cM 0),cO 77 (cM 1),cO 78 (cM 2),cO 79 (cM 4),cO 80 (call (cF 117) [t 76,t 77,t 78,t 79])]).seq (C2.cond (t 80) ret skip)) skip)).seq (((mixS 1 [cO 81 (cM 1),cO 82 (cB .gtr (t 81) (cN 0)),cO 83 (cM 82),cG 84 83 true (cM 4),cG 85 83 true (cM 0),cG 86 83 true (cM 1),cG 87 83 true (cB .sub (t 86) (cN 1)),cG 88 83 true (ixaS 2 (t 85) (t 87)),cG 89 83 true (ldn 2 (t 88)),cG 90 83 true (cM 0),cG 91 83 true (cM 13),cG 92 83 true (ixaS 2 (t 90) (t 91)),cG 93 83 true (ldn 2 (t 92)),cG 94 83 true (call (t 84) [t 89,t 93]),cG 95 83 true (cB .lss (t 94) (cN 0)),cG 96 83 true (un UnOp.not (t 95)),cO 97 (pick (t 83) (t 96) ax)] [(0,0),(1,0),(2,0),(3,0),(4,0),(5,0),(6,0),(7,0),(8,0),(9,0),(10,0),(11,0),(12,0),(13,2),(14,0),(15,0),(16,0)]).seq (C2.cond (t 97) ((ops 0 [cO 98 (cM 0),cO 99 (cM 1),cO 100 (cM 2),cO 101 (cM 13),cO 102 (cM 4),cO 103 (call (cF 118) [t 98,t 99,t 100,t 101,t 102]),cO 15 (cM 103)]).seq ((ops 0 [cO 104 (cM 15),cO 1 (cM 104)]).seq (exit 1))) skip)).seq ((ops 0 [cO 106 (cM 0),cO 107 (cM 1),cO 108 (cM 2),cO 109 (cM 13),cO 110 (cM 4),cO 111 (call (cF 119) [t 106,t 107,t 108,t 109,t 110]),cO 105 (cM 111),cO 112 (ext (t 105) 0),cO 113 (ext (t 105) 1),cO 16 (cM 112),cO 17 (cM 113)]).seq ((ops 0 [cO 114 (cM 17),cO 11 (cM 114)]).seq ((ops 0 [cO 115 (cM 16),cO 116 (cM 1),cO 117 (cB .sub (t 115) (t 116)),cO 118 (cM 2),cO 119 (cM 16),cO 120 (cB .sub (t 118) (t 119)),cO 18 (cM 117),cO 19 (cM 120)]).seq ((ops 0 [cO 121 (cM 12),cO 122 (cB .quo (t 121) (cN 8)),cO 20 (cM 122)]).seq ((ops 0 [cO 123 (cM 18),cO 124 (cM 19),cO 125 (cB .lss (t 123) (t 124))]).seq (C2.cond (t 125) ((ops 0 [cO 126 (cM 18),cO 127 (cM 20),cO 128 (cB .geq (t 126) (t 127)),cO 10 (cM 128)]).seq ((ops 0 [cO 129 (cM 0),cO 130 (cM 1),cO 131 (cM 16),cO 132 (cM 3),cO 133 (cM 4),cO 134 (call (cF 103) [t 129,t 130,t 131,t 132,t 133])]).seq (ops 0 [cO 135 (cM 16),cO 136 (cB .add (t 135) (cN 1)),cO 1 (cM 136)]))) ((ops 0 [cO 137 (cM 19),cO 138 (cM 20),cO 139 (cB .geq (t 137) (t 138)),cO 10 (cM 139)]).seq ((ops 0 [cO 140 (cM 0),cO 141 (cM 16),cO 142 (cB .add (t 141) (cN 1)),cO 143 (cM 2),cO 144 (cM 3),cO 145 (cM 4),cO 146 (call (cF 103) [t 140,t 142,t 143,t 144,t 145])]).seq (ops 0 [cO 147 (cM 16),cO 2 (cM 147)])))))))))))))))))).loop))))
theorem uJ:Is Tryz.prog 103 wJ:=Is.mk' Tryz.func103 (by kernel_rfl)
def xh:F2:=(F2.mk 8 [RV.t 2] ((ops 0 [cO 2 (mov (cN 0))]).seq ((C2.cond ax ((ops 0 [cO 3 (cM 0),cO 4 (conv IntKind.u32 (t 3)),cO 5 (call (cF 120) [t 4]),cO 2 (cM 5)]).seq ret) skip).seq ((ops 0 [cO 6 (cM 0),cO 7 (call (cF 121) [t 6]),cO 2 (cM 7)]).seq ret))))
theorem uN:Is Tryz.prog 104 xh:=Is.mk' Tryz.func104 (by kernel_rfl)
def wX:F2:=(F2.mk 148 [] ((ops 0 [cO 10 (mov aN)]).seq ((ops 0 [cO 11 (mov aN)]).seq (block 0 (block 1 ((ops 0 [cO 21 (cM 2),cO 22 (cM 1),cO 23 (cB .sub (t 21) (t 22)),cO 12 (cM 23)]).seq (((ops 0 [cO 24 (cM 12),cO 25 (cB .leq (t 24) (cN 12))]).seq (C2.cond (t 25) ((ops 0 [cO 26 (cM 0),cO 27 (cM 1),cO 28 (cM 2),cO 29 (cM 4),cO 30 (call (cF 122) [t 26,t 27,t 28,t 29])]).seq ret) skip)).seq (((ops 0 [cO 31 (cM 3),cO 32 (cB .eql (t 31) (cN 0))]).seq (C2.cond (t 32) ((ops 0 [cO 33 (cM 0),cO 34 (cM 1),cO 35 (cM 2),cO 36 (cM 4),cO 37 (call (cF 123) [t 33,t 34,t 35,t 36])]).seq ret) skip)).seq (((ops 0 [cO 38 (cM 10),cO 39 (un UnOp.not (t 38))]).seq (C2.cond (t 39) ((ops 0 [cO 40 (cM 0),cO 41 (cM 1),cO 42 (cM 2),cO 43 (cM 4),cO 44 (call (cF 124) [t 40,t 41,t 42,t 43])]).seq (ops 0 [cO 45 (cM 3),cO 46 (cB .sub (t 45) (cN 1)),cO 3 (cM 46)])) skip)).seq ((ops 0 [cO 48 (cM 0),cO 49 (cM 1),cO 50 (cM 2),cO 51 (cM 4),cO 52 (call (cF 125) [t 48,t 49,t 50,t 51]),cO 47 (cM 52),cO 53 (ext (t 47) 0),cO 54 (ext (t 47) 1),cO 13 (cM 53),cO 14 (cM 54)]).seq (((ops 0 [cO 55 (cM 14),cO 56 (cB .eql (t 55) (cN 2))]).seq (C2.cond (t 56) ((ops 0 [cO 57 (cM 0),cO 58 (cM 1),cO 59 (cM 2),cO 60 (cM 4),cO 61 (call (cF 126) [t 57,t 58,t 59,t 60])]).seq ((ops 0 [cO 62 (cM 2),cO 63 (cB .sub (t 62) (cN 1)),cO 64 (cM 13),cO 65 (cM 1),cO 66 (cB .sub (t 64) (t 65)),cO 67 (cB .sub (t 63) (t 66)),cO 13 (cM 67)]).seq (ops 0 [cO 14 (mov (cN 1))]))) skip)).seq (((ops 0 [cO 68 (cM 10),cO 69 (cM 68),cG 70 69 true (cM 11),cO 71 (pick (t 69) (t 70) ax),cO 72 (cM 71),cG 73 72 true (cM 14),cG 74 72 true (cB .eql (t 73) (cN 1)),cO 75 (pick (t 72) (t 74) ax)]).seq (C2.cond (t 75) ((ops 0 [cO 76 (cM 0),cO 77 (cM 1),cO 78 (cM 2),cO 79 (cM 4),cO 80 (call (cF 127) [t 76,t 77,t 78,t 79])]).seq (C2.cond (t 80) ret skip)) skip)).seq (((mixS 1 [cO 81 (cM 1),cO 82 (cB .gtr (t 81) (cN 0)),cO 83 (cM 82),cG 84 83 true (cM 4),cG 85 83 true (cM 0),cG 86 83 true (cM 1),cG 87 83 true (cB .sub (t 86) (cN 1)),cG 88 83 true (ixaS 1 (t 85) (t 87)),cG 89 83 true (cD 88),cG 90 83 true (cM 0),cG 91 83 true (cM 13),cG 92 83 true (ixaS 1 (t 90) (t 91)),cG 93 83 true (cD 92),cG 94 83 true (call (t 84) [t 89,t 93]),cG 95 83 true (cB .lss (t 94) (cN 0)),cG 96 83 true (un UnOp.not (t 95)),cO 97 (pick (t 83) (t 96) ax)] [(0,0),(1,0),(2,0),(3,0),(4,0),(5,0),(6,0),(7,0),(8,0),(9,0),(10,0),(11,0),(12,0),(13,2),(14,0),(15,0),(16,0)]).seq (C2.cond (t 97) ((ops 0 [cO 98 (cM 0),cO 99 (cM 1),cO 100 (cM 2),cO 101 (cM 13),cO 102 (cM 4),cO 103 (call (cF 128) [t 98,t 99,t 100,t 101,t 102]),cO 15 (cM 103)]).seq ((ops 0 [cO 104 (cM 15),cO 1 (cM 104)]).seq (exit 1))) skip)).seq ((ops 0 [cO 106 (cM 0),cO 107 (cM 1),cO 108 (cM 2),cO 109 (cM 13),cO 110 (cM 4),cO 111 (call (cF 129) [t 106,t 107,t 108,t 109,t 110]),cO 105 (cM 111),cO 112 (ext (t 105) 0),cO 113 (ext (t 105) 1),cO 16 (cM 112),cO 17 (cM 113)]).seq ((ops 0 [cO 114 (cM 17),cO 11 (cM 114)]).seq ((ops 0 [cO 115 (cM 16),cO 116 (cM 1),cO 117 (cB .sub (t 115) (t 116)),cO 118 (cM 2),cO 119 (cM 16),cO 120 (cB .sub (t 118) (t 119)),cO 18 (cM 117),cO 19 (cM 120)]).seq ((ops 0 [cO 121 (cM 12),cO 122 (cB .quo (t 121) (cN 8)),cO 20 (cM 122)]).seq ((ops 0 [cO 123 (cM 18),cO 124 (cM 19),cO 125 (cB .lss (t 123) (t 124))]).seq (C2.cond (t 125) ((ops 0 [cO 126 (cM 18),cO 127 (cM 20),cO 128 (cB .geq (t 126) (t 127)),cO 10 (cM 128)]).seq ((ops 0 [cO 129 (cM 0),cO 130 (cM 1),cO 131 (cM 16),cO 132 (cM 3),cO 133 (cM 4),cO 134 (call (cF 105) [t 129,t 130,t 131,t 132,t 133])]).seq (ops 0 [cO 135 (cM 16),cO 136 (cB .add (t 135) (cN 1)),cO 1 (cM 136)]))) ((ops 0 [cO 137 (cM 19),cO 138 (cM 20),cO 139 (cB .geq (t 137) (t 138)),cO 10 (cM 139)]).seq ((ops 0 [cO 140 (cM 0),cO 141 (cM 16),cO 142 (cB .add (t 141) (cN 1)),cO 143 (cM 2),cO 144 (cM 3),cO 145 (cM 4),cO 146 (call (cF 105) [t 140,t 142,t 143,t 144,t 145])]).seq (ops 0 [cO 147 (cM 16),cO 2 (cM 147)])))))))))))))))))).loop))))
theorem wa:Is Tryz.prog 105 wX:=Is.mk' Tryz.func105 (by kernel_rfl)
def zg:F2:=(F2.mk 27 [RV.t 4] ((ops 0 [cO 4 (mov (c AV.esl))]).seq (((ops 0 [cO 5 (cM 1),cO 6 (cB .lss (t 5) (cN 0))]).seq (C2.cond (t 6) (ops 0 [cO 7 dead,Op2.mk none none dead]) skip)).seq (((ops 0 [cO 8 (cM 1),cO 9 (cM 0),cO 10 (capE (t 9)),cO 11 (cM 0),cO 12 (lenS (t 11)),cO 13 (cB .sub (t 10) (t 12)),cO 14 (cB .sub (t 8) (t 13)),cO 1 (cM 14)]).seq ((ops 0 [cO 15 (cM 1),cO 16 (cB .gtr (t 15) (cN 0))]).seq (C2.cond (t 16) (ops 0 [cO 17 (cM 0),cO 18 (cM 0),cO 19 (capE (t 18)),cO 20 (sls 2 (t 17) none (some (t 19)) none),cO 21 (cM 1),cO 22 (apz 2 16 [AV.int IntKind.i64 (0),AV.int IntKind.i64 (0)] (t 20) (t 21)),cO 23 (cM 0),cO 24 (lenS (t 23)),cO 25 (sls 2 (t 22) none (some (t 24)) none),cO 0 (cM 25)]) skip))).seq ((ops 0 [cO 26 (cM 0),cO 4 (cM 26)]).seq ret)))))
theorem xB:Is Tryz.prog 109 zg:=Is.mk' Tryz.func109 (by kernel_rfl)
def yr:F2:=(F2.mk 19 [RV.t 4] ((ops 0 [cO 4 (mov (cN 0))]).seq (((ops 0 [cO 6 (cM 0),cO 7 (lenS (t 6)),cO 8 (mov (cN 0))]).seq (block 0 ((ops 0 [cO 9 (cB .lss (t 8) (t 7))]).seq ((C2.cond (t 9) skip (exit 0)).seq ((block 1 ((ops 0 [cO 10 (cM 8),cO 5 (cM 10)]).seq ((ops 0 [cO 11 (cM 1),cO 12 (cM 0),cO 13 (cM 5),cO 14 (ixaS 1 (t 12) (t 13)),cO 15 (cD 14),cO 16 (call (t 11) [t 15])]).seq (C2.cond (t 16) ((ops 0 [cO 17 (cM 5),cO 4 (cM 17)]).seq ret) skip)))).seq (ops 0 [cO 18 (cB .add (t 8) (cN 1)),cO 8 (cM 18)])))).loop)).seq ((ops 0 [cO 4 (mov (cN ((-1))))]).seq ret))))
theorem xH:Is Tryz.prog 110 yr:=Is.mk' Tryz.func110 (by kernel_rfl)
def yh:F2:=(F2.mk 6 [RV.t 2] ((ops 0 [cO 2 (mov ax)]).seq ((ops 0 [cO 3 (cM 0),cO 4 (cM 0),cO 5 (cB .neq (t 3) (t 4)),cO 2 (cM 5)]).seq ret)))
theorem ye:Is Tryz.prog 111 yh:=Is.mk' Tryz.func111 (by kernel_rfl)
def wM:F2:=(F2.mk 53 [] ((ops 0 [cO 10 (cM 1),cO 11 (cB .add (t 10) (cN 1)),cO 8 (cM 11)]).seq (block 0 (((ops 0 [cO 12 (cM 8),cO 13 (cM 2),cO 14 (cB .lss (t 12) (t 13))]).seq (C2.cond (t 14) skip (exit 0))).seq ((block 1 ((ops 0 [cO 17 (cM 8),cO 9 (cM 17)]).seq (block 2 (((mixS 1 [cO 18 (cM 9),cO 19 (cM 1),cO 20 (cB .gtr (t 18) (t 19)),cO 21 (cM 20),cG 22 21 true (cM 3),cG 23 21 true (cM 0),cG 24 21 true (cM 9),cG 25 21 true (ixaS 2 (t 23) (t 24)),cG 26 21 true (ldn 2 (t 25)),cG 27 21 true (cM 0),cG 28 21 true (cM 9),cG 29 21 true (cB .sub (t 28) (cN 1)),cG 30 21 true (ixaS 2 (t 27) (t 29)),cG 31 21 true (ldn 2 (t 30)),cG 32 21 true (call (t 22) [t 26,t 31]),cG 33 21 true (cB .lss (t 32) (cN 0)),cO 34 (pick (t 21) (t 33) ax)] [(0,0),(1,0),(2,0),(3,0),(4,0),(5,0),(6,0),(7,0),(8,0),(9,0),(10,0),(11,0),(12,0),(13,0),(14,2),(15,0),(16,0)]).seq (C2.cond (t 34) skip (exit 2))).seq ((block 3 (ops 1 [cO 37 (cM 0),cO 38 (cM 9),cO 39 (cM 0),cO 40 (cM 9),cO 41 (cB .sub (t 40) (cN 1)),cO 42 (cM 0),cO 43 (cM 9),cO 44 (cB .sub (t 43) (cN 1)),cO 45 (ixaS 2 (t 42) (t 44)),cO 46 (ldn 2 (t 45)),cO 47 (cM 0),cO 48 (cM 9),cO 49 (ixaS 2 (t 47) (t 48)),cO 50 (ldn 2 (t 49)),cO 51 (ixaS 2 (t 37) (t 38)),Op2.mk none none (Ins.st 2 (t 51) (t 46)),cO 52 (ixaS 2 (t 39) (t 41)),Op2.mk none none (Ins.st 2 (t 52) (t 50))])).seq (ops 0 [cO 35 (cM 9),cO 36 (cB .sub (t 35) (cN 1)),cO 9 (cM 36)]))).loop))).seq (ops 0 [cO 15 (cM 8),cO 16 (cB .add (t 15) (cN 1)),cO 8 (cM 16)]))).loop)))
theorem uZ:Is Tryz.prog 112 wM:=Is.mk' Tryz.func112 (by kernel_rfl)
def yB:F2:=(F2.mk 60 [] ((ops 0 [cO 13 (cM 1),cO 8 (cM 13)]).seq ((ops 0 [cO 9 (mov (cN 0))]).seq ((ops 0 [cO 14 (cM 2),cO 15 (cM 1),cO 16 (cB .sub (t 14) (t 15)),cO 10 (cM 16)]).seq (((ops 0 [cO 17 (cM 10),cO 18 (cB .sub (t 17) (cN 1)),cO 19 (cB .quo (t 18) (cN 2)),cO 11 (cM 19)]).seq (block 0 (((ops 0 [cO 20 (cM 11),cO 21 (cB .geq (t 20) (cN 0))]).seq (C2.cond (t 21) skip (exit 0))).seq ((block 1 (ops 0 [cO 24 (cM 0),cO 25 (cM 11),cO 26 (cM 10),cO 27 (cM 8),cO 28 (cM 3),cO 29 (call (cF 132) [t 24,t 25,t 26,t 27,t 28])])).seq (ops 0 [cO 22 (cM 11),cO 23 (cB .sub (t 22) (cN 1)),cO 11 (cM 23)]))).loop)).seq ((ops 0 [cO 30 (cM 10),cO 31 (cB .sub (t 30) (cN 1)),cO 12 (cM 31)]).seq (block 2 (((ops 0 [cO 32 (cM 12),cO 33 (cB .geq (t 32) (cN 0))]).seq (C2.cond (t 33) skip (exit 2))).seq ((block 3 ((ops 1 [cO 36 (cM 0),cO 37 (cM 8),cO 38 (cM 0),cO 39 (cM 8),cO 40 (cM 12),cO 41 (cB .add (t 39) (t 40)),cO 42 (cM 0),cO 43 (cM 8),cO 44 (cM 12),cO 45 (cB .add (t 43) (t 44)),cO 46 (ixaS 2 (t 42) (t 45)),cO 47 (ldn 2 (t 46)),cO 48 (cM 0),cO 49 (cM 8),cO 50 (ixaS 2 (t 48) (t 49)),cO 51 (ldn 2 (t 50)),cO 52 (ixaS 2 (t 36) (t 37)),Op2.mk none none (Ins.st 2 (t 52) (t 47)),cO 53 (ixaS 2 (t 38) (t 41)),Op2.mk none none (Ins.st 2 (t 53) (t 51))]).seq (ops 0 [cO 54 (cM 0),cO 55 (cM 9),cO 56 (cM 12),cO 57 (cM 8),cO 58 (cM 3),cO 59 (call (cF 132) [t 54,t 55,t 56,t 57,t 58])]))).seq (ops 0 [cO 34 (cM 12),cO 35 (cB .sub (t 34) (cN 1)),cO 12 (cM 35)]))).loop)))))))
theorem yg:Is Tryz.prog 113 yB:=Is.mk' Tryz.func113 (by kernel_rfl)
def zh:F2:=(F2.mk 67 [] ((ops 0 [cO 13 (cM 2),cO 14 (cM 1),cO 15 (cB .sub (t 13) (t 14)),cO 8 (cM 15)]).seq ((ops 0 [cO 16 (cM 8),cO 17 (cB .geq (t 16) (cN 8))]).seq (C2.cond (t 17) ((ops 0 [cO 18 (cM 8),cO 19 (conv IntKind.u64 (t 18)),cO 9 (alloc (AV.int IntKind.u64 (0))),Op2.mk none none (Ins.st 1 (t 9) (t 19))]).seq ((ops 0 [cO 20 (cM 8),cO 21 (call (cF 133) [t 20]),cO 10 (cM 21)]).seq ((ops 0 [cO 22 (cM 1),cO 23 (cM 8),cO 24 (cB .quo (t 23) (cN 4)),cO 25 (cB .mul (t 24) (cN 2)),cO 26 (cB .add (t 22) (t 25)),cO 27 (cB .sub (t 26) (cN 1)),cO 11 (cM 27)]).seq (block 0 (((ops 0 [cO 28 (cM 11),cO 29 (cM 1),cO 30 (cM 8),cO 31 (cB .quo (t 30) (cN 4)),cO 32 (cB .mul (t 31) (cN 2)),cO 33 (cB .add (t 29) (t 32)),cO 34 (cB .add (t 33) (cN 1)),cO 35 (cB .leq (t 28) (t 34))]).seq (C2.cond (t 35) skip (exit 0))).seq ((block 1 ((ops 0 [cO 38 (call (cF 134) [t 9]),cO 39 (cM 10),cO 40 (cB .sub (t 39) (c (AV.int IntKind.u64 (1)))),cO 41 (cB .and (t 38) (t 40)),cO 42 (conv IntKind.i64 (t 41)),cO 12 (cM 42)]).seq (((ops 0 [cO 43 (cM 12),cO 44 (cM 8),cO 45 (cB .geq (t 43) (t 44))]).seq (C2.cond (t 45) (ops 0 [cO 46 (cM 12),cO 47 (cM 8),cO 48 (cB .sub (t 46) (t 47)),cO 12 (cM 48)]) skip)).seq (ops 1 [cO 49 (cM 0),cO 50 (cM 11),cO 51 (cM 0),cO 52 (cM 1),cO 53 (cM 12),cO 54 (cB .add (t 52) (t 53)),cO 55 (cM 0),cO 56 (cM 1),cO 57 (cM 12),cO 58 (cB .add (t 56) (t 57)),cO 59 (ixaS 2 (t 55) (t 58)),cO 60 (ldn 2 (t 59)),cO 61 (cM 0),cO 62 (cM 11),cO 63 (ixaS 2 (t 61) (t 62)),cO 64 (ldn 2 (t 63)),cO 65 (ixaS 2 (t 49) (t 50)),Op2.mk none none (Ins.st 2 (t 65) (t 60)),cO 66 (ixaS 2 (t 51) (t 54)),Op2.mk none none (Ins.st 2 (t 66) (t 64))])))).seq (ops 0 [cO 36 (cM 11),cO 37 (cB .add (t 36) (cN 1)),cO 11 (cM 37)]))).loop)))) skip))))
theorem x8:Is Tryz.prog 114 zh:=Is.mk' Tryz.func114 (by kernel_rfl)
def y6:F2:=(F2.mk 63 [RV.t 8,RV.t 9] ((ops 0 [cO 8 (mov (cN 0)),cO 9 (mov (cN 0))]).seq ((ops 0 [cO 15 (cM 2),cO 16 (cM 1),cO 17 (cB .sub (t 15) (t 16)),cO 10 (cM 17)]).seq ((ops 0 [cO 11 (alloc (AV.int IntKind.i64 (0)))]).seq ((ops 0 [cO 18 (cM 1),cO 19 (cM 10),cO 20 (cB .quo (t 19) (cN 4)),cO 21 (cB .mul (t 20) (cN 1)),cO 22 (cB .add (t 18) (t 21)),cO 12 (cM 22)]).seq ((ops 0 [cO 23 (cM 1),cO 24 (cM 10),cO 25 (cB .quo (t 24) (cN 4)),cO 26 (cB .mul (t 25) (cN 2)),cO 27 (cB .add (t 23) (t 26)),cO 13 (cM 27)]).seq ((ops 0 [cO 28 (cM 1),cO 29 (cM 10),cO 30 (cB .quo (t 29) (cN 4)),cO 31 (cB .mul (t 30) (cN 3)),cO 32 (cB .add (t 28) (t 31)),cO 14 (cM 32)]).seq (((ops 0 [cO 33 (cM 10),cO 34 (cB .geq (t 33) (cN 8))]).seq (C2.cond (t 34) (((ops 0 [cO 35 (cM 10),cO 36 (cB .geq (t 35) (cN 50))]).seq (C2.cond (t 36) ((ops 0 [cO 37 (cM 0),cO 38 (cM 12),cO 39 (cM 3),cO 40 (call (cF 135) [t 37,t 38,t 11,t 39]),cO 12 (cM 40)]).seq ((ops 0 [cO 41 (cM 0),cO 42 (cM 13),cO 43 (cM 3),cO 44 (call (cF 135) [t 41,t 42,t 11,t 43]),cO 13 (cM 44)]).seq (ops 0 [cO 45 (cM 0),cO 46 (cM 14),cO 47 (cM 3),cO 48 (call (cF 135) [t 45,t 46,t 11,t 47]),cO 14 (cM 48)]))) skip)).seq (ops 0 [cO 49 (cM 0),cO 50 (cM 12),cO 51 (cM 13),cO 52 (cM 14),cO 53 (cM 3),cO 54 (call (cF 136) [t 49,t 50,t 51,t 52,t 11,t 53]),cO 13 (cM 54)])) skip)).seq ((ops 0 [cO 55 (cD 11)]).seq (block 0 ((ops 0 [cO 58 (cB .eql (t 55) (cN 0)),cO 57 (cM 58)]).seq (C2.cond (t 57) ((ops 0 [cO 59 (cM 13),cO 8 (cM 59),cO 9 (mov (cN 1))]).seq ret) ((ops 0 [cO 61 (cB .eql (t 55) (cN 12)),cO 60 (cM 61)]).seq (C2.cond (t 60) ((ops 0 [cO 62 (cM 13),cO 8 (cM 62),cO 9 (mov (cN 2))]).seq ret) ((ops 0 [cO 56 (cM 13),cO 8 (cM 56),cO 9 (mov (cN 0))]).seq ret)))))))))))))))
theorem xK:Is Tryz.prog 115 y6:=Is.mk' Tryz.func115 (by kernel_rfl)
def yM:F2:=(F2.mk 34 [] ((ops 0 [cO 10 (cM 1),cO 8 (cM 10)]).seq ((ops 0 [cO 11 (cM 2),cO 12 (cB .sub (t 11) (cN 1)),cO 9 (cM 12)]).seq (block 0 (((ops 0 [cO 13 (cM 8),cO 14 (cM 9),cO 15 (cB .lss (t 13) (t 14))]).seq (C2.cond (t 15) skip (exit 0))).seq (block 1 ((ops 1 [cO 16 (cM 0),cO 17 (cM 8),cO 18 (cM 0),cO 19 (cM 9),cO 20 (cM 0),cO 21 (cM 9),cO 22 (ixaS 2 (t 20) (t 21)),cO 23 (ldn 2 (t 22)),cO 24 (cM 0),cO 25 (cM 8),cO 26 (ixaS 2 (t 24) (t 25)),cO 27 (ldn 2 (t 26)),cO 28 (ixaS 2 (t 16) (t 17)),Op2.mk none none (Ins.st 2 (t 28) (t 23)),cO 29 (ixaS 2 (t 18) (t 19)),Op2.mk none none (Ins.st 2 (t 29) (t 27))]).seq ((ops 0 [cO 30 (cM 8),cO 31 (cB .add (t 30) (cN 1)),cO 8 (cM 31)]).seq (ops 0 [cO 32 (cM 9),cO 33 (cB .sub (t 32) (cN 1)),cO 9 (cM 33)]))))).loop))))
theorem xU:Is Tryz.prog 116 yM:=Is.mk' Tryz.func116 (by kernel_rfl)
def zC:F2:=(F2.mk 141 [RV.t 8] ((ops 0 [cO 8 (mov ax)]).seq ((ops 0 [cO 13 (cM 1),cO 14 (cB .add (t 13) (cN 1)),cO 9 (cM 14)]).seq (((ops 0 [cO 10 (mov (cN 0))]).seq (block 0 (((ops 0 [cO 15 (cM 10),cO 16 (cB .lss (t 15) (cN 5))]).seq (C2.cond (t 16) skip (exit 0))).seq ((block 1 ((block 2 (((mixS 1 [cO 19 (cM 9),cO 20 (cM 2),cO 21 (cB .lss (t 19) (t 20)),cO 22 (cM 21),cG 23 22 true (cM 3),cG 24 22 true (cM 0),cG 25 22 true (cM 9),cG 26 22 true (ixaS 2 (t 24) (t 25)),cG 27 22 true (ldn 2 (t 26)),cG 28 22 true (cM 0),cG 29 22 true (cM 9),cG 30 22 true (cB .sub (t 29) (cN 1)),cG 31 22 true (ixaS 2 (t 28) (t 30)),cG 32 22 true (ldn 2 (t 31)),cG 33 22 true (call (t 23) [t 27,t 32]),cG 34 22 true (cB .lss (t 33) (cN 0)),cG 35 22 true (un UnOp.not (t 34)),cO 36 (pick (t 22) (t 35) ax)] [(0,0),(1,0),(2,0),(3,0),(4,0),(5,0),(6,0),(7,0),(8,0),(9,0),(10,0),(11,0),(12,0),(13,0),(14,2),(15,0),(16,0),(17,0)]).seq (C2.cond (t 36) skip (exit 2))).seq (block 3 (ops 0 [cO 37 (cM 9),cO 38 (cB .add (t 37) (cN 1)),cO 9 (cM 38)]))).loop).seq (((ops 0 [cO 39 (cM 9),cO 40 (cM 2),cO 41 (cB .eql (t 39) (t 40))]).seq (C2.cond (t 41) ((ops 0 [cO 8 (mov aN)]).seq ret) skip)).seq (((ops 0 [cO 42 (cM 2),cO 43 (cM 1),cO 44 (cB .sub (t 42) (t 43)),cO 45 (cB .lss (t 44) (cN 50))]).seq (C2.cond (t 45) ((ops 0 [cO 8 (mov ax)]).seq ret) skip)).seq ((ops 1 [cO 46 (cM 0),cO 47 (cM 9),cO 48 (cM 0),cO 49 (cM 9),cO 50 (cB .sub (t 49) (cN 1)),cO 51 (cM 0),cO 52 (cM 9),cO 53 (cB .sub (t 52) (cN 1)),cO 54 (ixaS 2 (t 51) (t 53)),cO 55 (ldn 2 (t 54)),cO 56 (cM 0),cO 57 (cM 9),cO 58 (ixaS 2 (t 56) (t 57)),cO 59 (ldn 2 (t 58)),cO 60 (ixaS 2 (t 46) (t 47)),Op2.mk none none (Ins.st 2 (t 60) (t 55)),cO 61 (ixaS 2 (t 48) (t 50)),Op2.mk none none (Ins.st 2 (t 61) (t 59))]).seq (((ops 0 [cO 62 (cM 9),cO 63 (cM 1),cO 64 (cB .sub (t 62) (t 63)),cO 65 (cB .geq (t 64) (cN 2))]).seq (C2.cond (t 65) ((ops 0 [cO 66 (cM 9),cO 67 (cB .sub (t 66) (cN 1)),cO 11 (cM 67)]).seq (block 4 (((ops 0 [cO 68 (cM 11),cO 69 (cB .geq (t 68) (cN 1))]).seq (C2.cond (t 69) skip (exit 4))).seq ((block 5 (((mixS 1 [cO 72 (cM 3),cO 73 (cM 0),cO 74 (cM 11),cO 75 (ixaS 2 (t 73) (t 74)),cO 76 (ldn 2 (t 75)),cO 77 (cM 0),cO 78 (cM 11),cO 79 (cB .sub (t 78) (cN 1)),cO 80 (ixaS 2 (t 77) (t 79)),cO 81 (ldn 2 (t 80)),cO 82 (call (t 72) [t 76,t 81]),cO 83 (cB .lss (t 82) (cN 0)),cO 84 (un UnOp.not (t 83))] [(0,0),(1,0),(2,0),(3,0),(4,0),(5,0),(6,0),(7,0),(8,0),(9,0),(10,2),(11,0),(12,0)]).seq (C2.cond (t 84) (exit 4) skip)).seq (ops 1 [cO 85 (cM 0),cO 86 (cM 11),cO 87 (cM 0),cO 88 (cM 11),cO 89 (cB .sub (t 88) (cN 1)),cO 90 (cM 0),cO 91 (cM 11),cO 92 (cB .sub (t 91) (cN 1)),cO 93 (ixaS 2 (t 90) (t 92)),cO 94 (ldn 2 (t 93)),cO 95 (cM 0),cO 96 (cM 11),cO 97 (ixaS 2 (t 95) (t 96)),cO 98 (ldn 2 (t 97)),cO 99 (ixaS 2 (t 85) (t 86)),Op2.mk none none (Ins.st 2 (t 99) (t 94)),cO 100 (ixaS 2 (t 87) (t 89)),Op2.mk none none (Ins.st 2 (t 100) (t 98))]))).seq (ops 0 [cO 70 (cM 11),cO 71 (cB .sub (t 70) (cN 1)),cO 11 (cM 71)]))).loop)) skip)).seq ((ops 0 [cO 101 (cM 2),cO 102 (cM 9),cO 103 (cB .sub (t 101) (t 102)),cO 104 (cB .geq (t 103) (cN 2))]).seq (C2.cond (t 104) ((ops 0 [cO 105 (cM 9),cO 106 (cB .add (t 105) (cN 1)),cO 12 (cM 106)]).seq (block 6 (((ops 0 [cO 107 (cM 12),cO 108 (cM 2),cO 109 (cB .lss (t 107) (t 108))]).seq (C2.cond (t 109) skip (exit 6))).seq ((block 7 (((mixS 1 [cO 112 (cM 3),cO 113 (cM 0),cO 114 (cM 12),cO 115 (ixaS 2 (t 113) (t 114)),cO 116 (ldn 2 (t 115)),cO 117 (cM 0),cO 118 (cM 12),cO 119 (cB .sub (t 118) (cN 1)),cO 120 (ixaS 2 (t 117) (t 119)),cO 121 (ldn 2 (t 120)),cO 122 (call (t 112) [t 116,t 121]),cO 123 (cB .lss (t 122) (cN 0)),cO 124 (un UnOp.not (t 123))] [(0,0),(1,0),(2,0),(3,0),(4,0),(5,0),(6,0),(7,0),(8,0),(9,0),(10,2),(11,0),(12,0)]).seq (C2.cond (t 124) (exit 6) skip)).seq (ops 1 [cO 125 (cM 0),cO 126 (cM 12),cO 127 (cM 0),cO 128 (cM 12),cO 129 (cB .sub (t 128) (cN 1)),cO 130 (cM 0),cO 131 (cM 12),cO 132 (cB .sub (t 131) (cN 1)),cO 133 (ixaS 2 (t 130) (t 132)),cO 134 (ldn 2 (t 133)),cO 135 (cM 0),cO 136 (cM 12),cO 137 (ixaS 2 (t 135) (t 136)),cO 138 (ldn 2 (t 137)),cO 139 (ixaS 2 (t 125) (t 126)),Op2.mk none none (Ins.st 2 (t 139) (t 134)),cO 140 (ixaS 2 (t 127) (t 129)),Op2.mk none none (Ins.st 2 (t 140) (t 138))]))).seq (ops 0 [cO 110 (cM 12),cO 111 (cB .add (t 110) (cN 1)),cO 12 (cM 111)]))).loop)) skip)))))))).seq (ops 0 [cO 17 (cM 10),cO 18 (cB .add (t 17) (cN 1)),cO 10 (cM 18)]))).loop)).seq ((ops 0 [cO 8 (mov ax)]).seq ret)))))
theorem xS:Is Tryz.prog 117 zC:=Is.mk' Tryz.func117 (by kernel_rfl)
def yp:F2:=(F2.mk 90 [RV.t 10] ((ops 0 [cO 10 (mov (cN 0))]).seq ((ops 1 [cO 13 (cM 0),cO 14 (cM 1),cO 15 (cM 0),cO 16 (cM 3),cO 17 (cM 0),cO 18 (cM 3),cO 19 (ixaS 2 (t 17) (t 18)),cO 20 (ldn 2 (t 19)),cO 21 (cM 0),cO 22 (cM 1),cO 23 (ixaS 2 (t 21) (t 22)),cO 24 (ldn 2 (t 23)),cO 25 (ixaS 2 (t 13) (t 14)),Op2.mk none none (Ins.st 2 (t 25) (t 20)),cO 26 (ixaS 2 (t 15) (t 16)),Op2.mk none none (Ins.st 2 (t 26) (t 24))]).seq ((ops 0 [cO 27 (cM 1),cO 28 (cB .add (t 27) (cN 1)),cO 29 (cM 2),cO 30 (cB .sub (t 29) (cN 1)),cO 11 (cM 28),cO 12 (cM 30)]).seq ((block 0 (block 1 ((block 2 (((mixS 1 [cO 31 (cM 11),cO 32 (cM 12),cO 33 (cB .leq (t 31) (t 32)),cO 34 (cM 33),cG 35 34 true (cM 4),cG 36 34 true (cM 0),cG 37 34 true (cM 1),cG 38 34 true (ixaS 2 (t 36) (t 37)),cG 39 34 true (ldn 2 (t 38)),cG 40 34 true (cM 0),cG 41 34 true (cM 11),cG 42 34 true (ixaS 2 (t 40) (t 41)),cG 43 34 true (ldn 2 (t 42)),cG 44 34 true (call (t 35) [t 39,t 43]),cG 45 34 true (cB .lss (t 44) (cN 0)),cG 46 34 true (un UnOp.not (t 45)),cO 47 (pick (t 34) (t 46) ax)] [(0,0),(1,0),(2,0),(3,0),(4,0),(5,0),(6,0),(7,0),(8,0),(9,0),(10,0),(11,0),(12,0),(13,2),(14,0),(15,0),(16,0)]).seq (C2.cond (t 47) skip (exit 2))).seq (block 3 (ops 0 [cO 48 (cM 11),cO 49 (cB .add (t 48) (cN 1)),cO 11 (cM 49)]))).loop).seq ((block 4 (((mixS 1 [cO 50 (cM 11),cO 51 (cM 12),cO 52 (cB .leq (t 50) (t 51)),cO 53 (cM 52),cG 54 53 true (cM 4),cG 55 53 true (cM 0),cG 56 53 true (cM 1),cG 57 53 true (ixaS 2 (t 55) (t 56)),cG 58 53 true (ldn 2 (t 57)),cG 59 53 true (cM 0),cG 60 53 true (cM 12),cG 61 53 true (ixaS 2 (t 59) (t 60)),cG 62 53 true (ldn 2 (t 61)),cG 63 53 true (call (t 54) [t 58,t 62]),cG 64 53 true (cB .lss (t 63) (cN 0)),cO 65 (pick (t 53) (t 64) ax)] [(0,0),(1,0),(2,0),(3,0),(4,0),(5,0),(6,0),(7,0),(8,0),(9,0),(10,0),(11,0),(12,0),(13,2),(14,0),(15,0)]).seq (C2.cond (t 65) skip (exit 4))).seq (block 5 (ops 0 [cO 66 (cM 12),cO 67 (cB .sub (t 66) (cN 1)),cO 12 (cM 67)]))).loop).seq (((ops 0 [cO 68 (cM 11),cO 69 (cM 12),cO 70 (cB .gtr (t 68) (t 69))]).seq (C2.cond (t 70) (exit 0) skip)).seq ((ops 1 [cO 71 (cM 0),cO 72 (cM 11),cO 73 (cM 0),cO 74 (cM 12),cO 75 (cM 0),cO 76 (cM 12),cO 77 (ixaS 2 (t 75) (t 76)),cO 78 (ldn 2 (t 77)),cO 79 (cM 0),cO 80 (cM 11),cO 81 (ixaS 2 (t 79) (t 80)),cO 82 (ldn 2 (t 81)),cO 83 (ixaS 2 (t 71) (t 72)),Op2.mk none none (Ins.st 2 (t 83) (t 78)),cO 84 (ixaS 2 (t 73) (t 74)),Op2.mk none none (Ins.st 2 (t 84) (t 82))]).seq ((ops 0 [cO 85 (cM 11),cO 86 (cB .add (t 85) (cN 1)),cO 11 (cM 86)]).seq (ops 0 [cO 87 (cM 12),cO 88 (cB .sub (t 87) (cN 1)),cO 12 (cM 88)]))))))).loop).seq ((ops 0 [cO 89 (cM 11),cO 10 (cM 89)]).seq ret))))))
theorem x9:Is Tryz.prog 118 yp:=Is.mk' Tryz.func118 (by kernel_rfl)
def yE:F2:=(F2.mk 178 [RV.t 10,RV.t 11] ((ops 0 [cO 10 (mov (cN 0)),cO 11 (mov ax)]).seq ((ops 1 [cO 14 (cM 0),cO 15 (cM 1),cO 16 (cM 0),cO 17 (cM 3),cO 18 (cM 0),cO 19 (cM 3),cO 20 (ixaS 2 (t 18) (t 19)),cO 21 (ldn 2 (t 20)),cO 22 (cM 0),cO 23 (cM 1),cO 24 (ixaS 2 (t 22) (t 23)),cO 25 (ldn 2 (t 24)),cO 26 (ixaS 2 (t 14) (t 15)),Op2.mk none none (Ins.st 2 (t 26) (t 21)),cO 27 (ixaS 2 (t 16) (t 17)),Op2.mk none none (Ins.st 2 (t 27) (t 25))]).seq ((ops 0 [cO 28 (cM 1),cO 29 (cB .add (t 28) (cN 1)),cO 30 (cM 2),cO 31 (cB .sub (t 30) (cN 1)),cO 12 (cM 29),cO 13 (cM 31)]).seq ((block 0 (((mixS 1 [cO 32 (cM 12),cO 33 (cM 13),cO 34 (cB .leq (t 32) (t 33)),cO 35 (cM 34),cG 36 35 true (cM 4),cG 37 35 true (cM 0),cG 38 35 true (cM 12),cG 39 35 true (ixaS 2 (t 37) (t 38)),cG 40 35 true (ldn 2 (t 39)),cG 41 35 true (cM 0),cG 42 35 true (cM 1),cG 43 35 true (ixaS 2 (t 41) (t 42)),cG 44 35 true (ldn 2 (t 43)),cG 45 35 true (call (t 36) [t 40,t 44]),cG 46 35 true (cB .lss (t 45) (cN 0)),cO 47 (pick (t 35) (t 46) ax)] [(0,0),(1,0),(2,0),(3,0),(4,0),(5,0),(6,0),(7,0),(8,0),(9,0),(10,0),(11,0),(12,0),(13,2),(14,0),(15,0)]).seq (C2.cond (t 47) skip (exit 0))).seq (block 1 (ops 0 [cO 48 (cM 12),cO 49 (cB .add (t 48) (cN 1)),cO 12 (cM 49)]))).loop).seq ((block 2 (((mixS 1 [cO 50 (cM 12),cO 51 (cM 13),cO 52 (cB .leq (t 50) (t 51)),cO 53 (cM 52),cG 54 53 true (cM 4),cG 55 53 true (cM 0),cG 56 53 true (cM 13),cG 57 53 true (ixaS 2 (t 55) (t 56)),cG 58 53 true (ldn 2 (t 57)),cG 59 53 true (cM 0),cG 60 53 true (cM 1),cG 61 53 true (ixaS 2 (t 59) (t 60)),cG 62 53 true (ldn 2 (t 61)),cG 63 53 true (call (t 54) [t 58,t 62]),cG 64 53 true (cB .lss (t 63) (cN 0)),cG 65 53 true (un UnOp.not (t 64)),cO 66 (pick (t 53) (t 65) ax)] [(0,0),(1,0),(2,0),(3,0),(4,0),(5,0),(6,0),(7,0),(8,0),(9,0),(10,0),(11,0),(12,0),(13,2),(14,0),(15,0),(16,0)]).seq (C2.cond (t 66) skip (exit 2))).seq (block 3 (ops 0 [cO 67 (cM 13),cO 68 (cB .sub (t 67) (cN 1)),cO 13 (cM 68)]))).loop).seq (((ops 0 [cO 69 (cM 12),cO 70 (cM 13),cO 71 (cB .gtr (t 69) (t 70))]).seq (C2.cond (t 71) ((ops 1 [cO 72 (cM 0),cO 73 (cM 13),cO 74 (cM 0),cO 75 (cM 1),cO 76 (cM 0),cO 77 (cM 1),cO 78 (ixaS 2 (t 76) (t 77)),cO 79 (ldn 2 (t 78)),cO 80 (cM 0),cO 81 (cM 13),cO 82 (ixaS 2 (t 80) (t 81)),cO 83 (ldn 2 (t 82)),cO 84 (ixaS 2 (t 72) (t 73)),Op2.mk none none (Ins.st 2 (t 84) (t 79)),cO 85 (ixaS 2 (t 74) (t 75)),Op2.mk none none (Ins.st 2 (t 85) (t 83))]).seq ((ops 0 [cO 86 (cM 13),cO 10 (cM 86),cO 11 (mov aN)]).seq ret)) skip)).seq ((ops 1 [cO 87 (cM 0),cO 88 (cM 12),cO 89 (cM 0),cO 90 (cM 13),cO 91 (cM 0),cO 92 (cM 13),cO 93 (ixaS 2 (t 91) (t 92)),cO 94 (ldn 2 (t 93)),cO 95 (cM 0),cO 96 (cM 12),cO 97 (ixaS 2 (t 95) (t 96)),cO 98 (ldn 2 (t 97)),cO 99 (ixaS 2 (t 87) (t 88)),Op2.mk none none (Ins.st 2 (t 99) (t 94)),cO 100 (ixaS 2 (t 89) (t 90)),Op2.mk none none (Ins.st 2 (t 100) (t 98))]).seq ((ops 0 [cO 101 (cM 12),cO 102 (cB .add (t 101) (cN 1)),cO 12 (cM 102)]).seq ((ops 0 [cO 103 (cM 13),cO 104 (cB .sub (t 103) (cN 1)),cO 13 (cM 104)]).seq ((block 4 (block 5 ((block 6 (((mixS 1 [cO 105 (cM 12),cO 106 (cM 13),cO 107 (cB .leq (t 105) (t 106)),cO 108 (cM 107),cG 109 108 true (cM 4),cG 110 108 true (cM 0),cG 111 108 true (cM 12),cG 112 108 true (ixaS 2 (t 110) (t 111)),cG 113 108 true (ldn 2 (t 112)),cG 114 108 true (cM 0),cG 115 108 true (cM 1),cG 116 108 true (ixaS 2 (t 114) (t 115)),cG 117 108 true (ldn 2 (t 116)),cG 118 108 true (call (t 109) [t 113,t 117]),cG 119 108 true (cB .lss (t 118) (cN 0)),cO 120 (pick (t 108) (t 119) ax)] [(0,0),(1,0),(2,0),(3,0),(4,0),(5,0),(6,0),(7,0),(8,0),(9,0),(10,0),(11,0),(12,0),(13,2),(14,0),(15,0)]).seq (C2.cond (t 120) skip (exit 6))).seq (block 7 (ops 0 [cO 121 (cM 12),cO 122 (cB .add (t 121) (cN 1)),cO 12 (cM 122)]))).loop).seq ((block 8 (((mixS 1 [cO 123 (cM 12),cO 124 (cM 13),cO 125 (cB .leq (t 123) (t 124)),cO 126 (cM 125),cG 127 126 true (cM 4),cG 128 126 true (cM 0),cG 129 126 true (cM 13),cG 130 126 true (ixaS 2 (t 128) (t 129)),cG 131 126 true (ldn 2 (t 130)),cG 132 126 true (cM 0),cG 133 126 true (cM 1),cG 134 126 true (ixaS 2 (t 132) (t 133)),cG 135 126 true (ldn 2 (t 134)),cG 136 126 true (call (t 127) [t 131,t 135]),cG 137 126 true (cB .lss (t 136) (cN 0)),cG 138 126 true (un UnOp.not (t 137)),cO 139 (pick (t 126) (t 138) ax)] [(0,0),(1,0),(2,0),(3,0),(4,0),(5,0),(6,0),(7,0),(8,0),(9,0),(10,0),(11,0),(12,0),(13,2),(14,0),(15,0),(16,0)]).seq (C2.cond (t 139) skip (exit 8))).seq (block 9 (ops 0 [cO 140 (cM 13),cO 141 (cB .sub (t 140) (cN 1)),cO 13 (cM 141)]))).loop).seq (((ops 0 [cO 142 (cM 12),cO 143 (cM 13),cO 144 (cB .gtr (t 142) (t 143))]).seq (C2.cond (t 144) (exit 4) skip)).seq ((ops 1 [cO 145 (cM 0),cO 146 (cM 12),cO 147 (cM 0),cO 148 (cM 13),cO 149 (cM 0),cO 150 (cM 13),cO 151 (ixaS 2 (t 149) (t 150)),cO 152 (ldn 2 (t 151)),cO 153 (cM 0),cO 154 (cM 12),cO 155 (ixaS 2 (t 153) (t 154)),cO 156 (ldn 2 (t 155)),cO 157 (ixaS 2 (t 145) (t 146)),Op2.mk none none (Ins.st 2 (t 157) (t 152)),cO 158 (ixaS 2 (t 147) (t 148)),Op2.mk none none (Ins.st 2 (t 158) (t 156))]).seq ((ops 0 [cO 159 (cM 12),cO 160 (cB .add (t 159) (cN 1)),cO 12 (cM 160)]).seq (ops 0 [cO 161 (cM 13),cO 162 (cB .sub (t 161) (cN 1)),cO 13 (cM 162)]))))))).loop).seq ((ops 1 [cO 163 (cM 0),cO 164 (cM 13),cO 165 (cM 0),cO 166 (cM 1),cO 167 (cM 0),cO 168 (cM 1),cO 169 (ixaS 2 (t 167) (t 168)),cO 170 (ldn 2 (t 169)),cO 171 (cM 0),cO 172 (cM 13),cO 173 (ixaS 2 (t 171) (t 172)),cO 174 (ldn 2 (t 173)),cO 175 (ixaS 2 (t 163) (t 164)),Op2.mk none none (Ins.st 2 (t 175) (t 170)),cO 176 (ixaS 2 (t 165) (t 166)),Op2.mk none none (Ins.st 2 (t 176) (t 174))]).seq ((ops 0 [cO 177 (cM 13),cO 10 (cM 177),cO 11 (mov ax)]).seq ret)))))))))))))
theorem xZ:Is Tryz.prog 119 yE:=Is.mk' Tryz.func119 (by kernel_rfl)
def AN:F2:=(F2.mk 19 [RV.t 2] ((ops 0 [cO 2 (mov (cN 0))]).seq (((ops 0 [cO 3 (cM 0),cO 4 (cB .geq (t 3) (c (AV.int IntKind.u32 (65536))))]).seq (C2.cond (t 4) ((ops 0 [cO 5 (cM 0),cO 6 (cB .shr (t 5) (c (AV.int IntKind.u64 (16)))),cO 0 (cM 6)]).seq (ops 0 [cO 2 (mov (cN 16))])) skip)).seq (((ops 0 [cO 7 (cM 0),cO 8 (cB .geq (t 7) (c (AV.int IntKind.u32 (256))))]).seq (C2.cond (t 8) ((ops 0 [cO 9 (cM 0),cO 10 (cB .shr (t 9) (c (AV.int IntKind.u64 (8)))),cO 0 (cM 10)]).seq (ops 0 [cO 11 (cM 2),cO 12 (cB .add (t 11) (cN 8)),cO 2 (cM 12)])) skip)).seq ((ops 0 [cO 13 (cM 2),cO 14 (cM 0),cO 15 (conv IntKind.u8 (t 14)),cO 16 (ixStr (c (AV.str (ByteArray.mk (Array.mk [0,1,2,2,3,3,3,3,4,4,4,4,4,4,4,4,5,5,5,5,5,5,5,5,5,5,5,5,5,5,5,5,6,6,6,6,6,6,6,6,6,6,6,6,6,6,6,6,6,6,6,6,6,6,6,6,6,6,6,6,6,6,6,6,7,7,7,7,7,7,7,7,7,7,7,7,7,7,7,7,7,7,7,7,7,7,7,7,7,7,7,7,7,7,7,7,7,7,7,7,7,7,7,7,7,7,7,7,7,7,7,7,7,7,7,7,7,7,7,7,7,7,7,7,7,7,7,7,8,8,8,8,8,8,8,8,8,8,8,8,8,8,8,8,8,8,8,8,8,8,8,8,8,8,8,8,8,8,8,8,8,8,8,8,8,8,8,8,8,8,8,8,8,8,8,8,8,8,8,8,8,8,8,8,8,8,8,8,8,8,8,8,8,8,8,8,8,8,8,8,8,8,8,8,8,8,8,8,8,8,8,8,8,8,8,8,8,8,8,8,8,8,8,8,8,8,8,8,8,8,8,8,8,8,8,8,8,8,8,8,8,8,8,8,8,8,8,8,8,8,8,8,8,8,8,8])))) (t 15)),cO 17 (conv IntKind.i64 (t 16)),cO 18 (cB .add (t 13) (t 17)),cO 2 (cM 18)]).seq ret)))))
theorem zI:Is Tryz.prog 120 AN:=Is.mk' Tryz.func120 (by kernel_rfl)
def wO:F2:=(F2.mk 25 [RV.t 2] ((ops 0 [cO 2 (mov (cN 0))]).seq (((ops 0 [cO 3 (cM 0),cO 4 (cB .geq (t 3) (c (AV.int IntKind.u64 (4294967296))))]).seq (C2.cond (t 4) ((ops 0 [cO 5 (cM 0),cO 6 (cB .shr (t 5) (c (AV.int IntKind.u64 (32)))),cO 0 (cM 6)]).seq (ops 0 [cO 2 (mov (cN 32))])) skip)).seq (((ops 0 [cO 7 (cM 0),cO 8 (cB .geq (t 7) (c (AV.int IntKind.u64 (65536))))]).seq (C2.cond (t 8) ((ops 0 [cO 9 (cM 0),cO 10 (cB .shr (t 9) (c (AV.int IntKind.u64 (16)))),cO 0 (cM 10)]).seq (ops 0 [cO 11 (cM 2),cO 12 (cB .add (t 11) (cN 16)),cO 2 (cM 12)])) skip)).seq (((ops 0 [cO 13 (cM 0),cO 14 (cB .geq (t 13) (c (AV.int IntKind.u64 (256))))]).seq (C2.cond (t 14) ((ops 0 [cO 15 (cM 0),cO 16 (cB .shr (t 15) (c (AV.int IntKind.u64 (8)))),cO 0 (cM 16)]).seq (ops 0 [cO 17 (cM 2),cO 18 (cB .add (t 17) (cN 8)),cO 2 (cM 18)])) skip)).seq ((ops 0 [cO 19 (cM 2),cO 20 (cM 0),cO 21 (conv IntKind.u8 (t 20)),cO 22 (ixStr (c (AV.str (ByteArray.mk (Array.mk [0,1,2,2,3,3,3,3,4,4,4,4,4,4,4,4,5,5,5,5,5,5,5,5,5,5,5,5,5,5,5,5,6,6,6,6,6,6,6,6,6,6,6,6,6,6,6,6,6,6,6,6,6,6,6,6,6,6,6,6,6,6,6,6,7,7,7,7,7,7,7,7,7,7,7,7,7,7,7,7,7,7,7,7,7,7,7,7,7,7,7,7,7,7,7,7,7,7,7,7,7,7,7,7,7,7,7,7,7,7,7,7,7,7,7,7,7,7,7,7,7,7,7,7,7,7,7,7,8,8,8,8,8,8,8,8,8,8,8,8,8,8,8,8,8,8,8,8,8,8,8,8,8,8,8,8,8,8,8,8,8,8,8,8,8,8,8,8,8,8,8,8,8,8,8,8,8,8,8,8,8,8,8,8,8,8,8,8,8,8,8,8,8,8,8,8,8,8,8,8,8,8,8,8,8,8,8,8,8,8,8,8,8,8,8,8,8,8,8,8,8,8,8,8,8,8,8,8,8,8,8,8,8,8,8,8,8,8,8,8,8,8,8,8,8,8,8,8,8,8,8,8,8,8,8,8])))) (t 21)),cO 23 (conv IntKind.i64 (t 22)),cO 24 (cB .add (t 19) (t 23)),cO 2 (cM 24)]).seq ret))))))
theorem wi:Is Tryz.prog 121 wO:=Is.mk' Tryz.func121 (by kernel_rfl)
def wA:F2:=(F2.mk 53 [] ((ops 0 [cO 10 (cM 1),cO 11 (cB .add (t 10) (cN 1)),cO 8 (cM 11)]).seq (block 0 (((ops 0 [cO 12 (cM 8),cO 13 (cM 2),cO 14 (cB .lss (t 12) (t 13))]).seq (C2.cond (t 14) skip (exit 0))).seq ((block 1 ((ops 0 [cO 17 (cM 8),cO 9 (cM 17)]).seq (block 2 (((mixS 1 [cO 18 (cM 9),cO 19 (cM 1),cO 20 (cB .gtr (t 18) (t 19)),cO 21 (cM 20),cG 22 21 true (cM 3),cG 23 21 true (cM 0),cG 24 21 true (cM 9),cG 25 21 true (ixaS 1 (t 23) (t 24)),cG 26 21 true (cD 25),cG 27 21 true (cM 0),cG 28 21 true (cM 9),cG 29 21 true (cB .sub (t 28) (cN 1)),cG 30 21 true (ixaS 1 (t 27) (t 29)),cG 31 21 true (cD 30),cG 32 21 true (call (t 22) [t 26,t 31]),cG 33 21 true (cB .lss (t 32) (cN 0)),cO 34 (pick (t 21) (t 33) ax)] [(0,0),(1,0),(2,0),(3,0),(4,0),(5,0),(6,0),(7,0),(8,0),(9,0),(10,0),(11,0),(12,0),(13,0),(14,2),(15,0),(16,0)]).seq (C2.cond (t 34) skip (exit 2))).seq ((block 3 (ops 1 [cO 37 (cM 0),cO 38 (cM 9),cO 39 (cM 0),cO 40 (cM 9),cO 41 (cB .sub (t 40) (cN 1)),cO 42 (cM 0),cO 43 (cM 9),cO 44 (cB .sub (t 43) (cN 1)),cO 45 (ixaS 1 (t 42) (t 44)),cO 46 (cD 45),cO 47 (cM 0),cO 48 (cM 9),cO 49 (ixaS 1 (t 47) (t 48)),cO 50 (cD 49),cO 51 (ixaS 1 (t 37) (t 38)),Op2.mk none none (Ins.st 1 (t 51) (t 46)),cO 52 (ixaS 1 (t 39) (t 41)),Op2.mk none none (Ins.st 1 (t 52) (t 50))])).seq (ops 0 [cO 35 (cM 9),cO 36 (cB .sub (t 35) (cN 1)),cO 9 (cM 36)]))).loop))).seq (ops 0 [cO 15 (cM 8),cO 16 (cB .add (t 15) (cN 1)),cO 8 (cM 16)]))).loop)))
theorem vI:Is Tryz.prog 122 wA:=Is.mk' Tryz.func122 (by kernel_rfl)
def zG:F2:=(F2.mk 60 [] ((ops 0 [cO 13 (cM 1),cO 8 (cM 13)]).seq ((ops 0 [cO 9 (mov (cN 0))]).seq ((ops 0 [cO 14 (cM 2),cO 15 (cM 1),cO 16 (cB .sub (t 14) (t 15)),cO 10 (cM 16)]).seq (((ops 0 [cO 17 (cM 10),cO 18 (cB .sub (t 17) (cN 1)),cO 19 (cB .quo (t 18) (cN 2)),cO 11 (cM 19)]).seq (block 0 (((ops 0 [cO 20 (cM 11),cO 21 (cB .geq (t 20) (cN 0))]).seq (C2.cond (t 21) skip (exit 0))).seq ((block 1 (ops 0 [cO 24 (cM 0),cO 25 (cM 11),cO 26 (cM 10),cO 27 (cM 8),cO 28 (cM 3),cO 29 (call (cF 137) [t 24,t 25,t 26,t 27,t 28])])).seq (ops 0 [cO 22 (cM 11),cO 23 (cB .sub (t 22) (cN 1)),cO 11 (cM 23)]))).loop)).seq ((ops 0 [cO 30 (cM 10),cO 31 (cB .sub (t 30) (cN 1)),cO 12 (cM 31)]).seq (block 2 (((ops 0 [cO 32 (cM 12),cO 33 (cB .geq (t 32) (cN 0))]).seq (C2.cond (t 33) skip (exit 2))).seq ((block 3 ((ops 1 [cO 36 (cM 0),cO 37 (cM 8),cO 38 (cM 0),cO 39 (cM 8),cO 40 (cM 12),cO 41 (cB .add (t 39) (t 40)),cO 42 (cM 0),cO 43 (cM 8),cO 44 (cM 12),cO 45 (cB .add (t 43) (t 44)),cO 46 (ixaS 1 (t 42) (t 45)),cO 47 (cD 46),cO 48 (cM 0),cO 49 (cM 8),cO 50 (ixaS 1 (t 48) (t 49)),cO 51 (cD 50),cO 52 (ixaS 1 (t 36) (t 37)),Op2.mk none none (Ins.st 1 (t 52) (t 47)),cO 53 (ixaS 1 (t 38) (t 41)),Op2.mk none none (Ins.st 1 (t 53) (t 51))]).seq (ops 0 [cO 54 (cM 0),cO 55 (cM 9),cO 56 (cM 12),cO 57 (cM 8),cO 58 (cM 3),cO 59 (call (cF 137) [t 54,t 55,t 56,t 57,t 58])]))).seq (ops 0 [cO 34 (cM 12),cO 35 (cB .sub (t 34) (cN 1)),cO 12 (cM 35)]))).loop)))))))
theorem xF:Is Tryz.prog 123 zG:=Is.mk' Tryz.func123 (by kernel_rfl)
def yT:F2:=(F2.mk 67 [] ((ops 0 [cO 13 (cM 2),cO 14 (cM 1),cO 15 (cB .sub (t 13) (t 14)),cO 8 (cM 15)]).seq ((ops 0 [cO 16 (cM 8),cO 17 (cB .geq (t 16) (cN 8))]).seq (C2.cond (t 17) ((ops 0 [cO 18 (cM 8),cO 19 (conv IntKind.u64 (t 18)),cO 9 (alloc (AV.int IntKind.u64 (0))),Op2.mk none none (Ins.st 1 (t 9) (t 19))]).seq ((ops 0 [cO 20 (cM 8),cO 21 (call (cF 133) [t 20]),cO 10 (cM 21)]).seq ((ops 0 [cO 22 (cM 1),cO 23 (cM 8),cO 24 (cB .quo (t 23) (cN 4)),cO 25 (cB .mul (t 24) (cN 2)),cO 26 (cB .add (t 22) (t 25)),cO 27 (cB .sub (t 26) (cN 1)),cO 11 (cM 27)]).seq (block 0 (((ops 0 [cO 28 (cM 11),cO 29 (cM 1),cO 30 (cM 8),cO 31 (cB .quo (t 30) (cN 4)),cO 32 (cB .mul (t 31) (cN 2)),cO 33 (cB .add (t 29) (t 32)),cO 34 (cB .add (t 33) (cN 1)),cO 35 (cB .leq (t 28) (t 34))]).seq (C2.cond (t 35) skip (exit 0))).seq ((block 1 ((ops 0 [cO 38 (call (cF 134) [t 9]),cO 39 (cM 10),cO 40 (cB .sub (t 39) (c (AV.int IntKind.u64 (1)))),cO 41 (cB .and (t 38) (t 40)),cO 42 (conv IntKind.i64 (t 41)),cO 12 (cM 42)]).seq (((ops 0 [cO 43 (cM 12),cO 44 (cM 8),cO 45 (cB .geq (t 43) (t 44))]).seq (C2.cond (t 45) (ops 0 [cO 46 (cM 12),cO 47 (cM 8),cO 48 (cB .sub (t 46) (t 47)),cO 12 (cM 48)]) skip)).seq (ops 1 [cO 49 (cM 0),cO 50 (cM 11),cO 51 (cM 0),cO 52 (cM 1),cO 53 (cM 12),cO 54 (cB .add (t 52) (t 53)),cO 55 (cM 0),cO 56 (cM 1),cO 57 (cM 12),cO 58 (cB .add (t 56) (t 57)),cO 59 (ixaS 1 (t 55) (t 58)),cO 60 (cD 59),cO 61 (cM 0),cO 62 (cM 11),cO 63 (ixaS 1 (t 61) (t 62)),cO 64 (cD 63),cO 65 (ixaS 1 (t 49) (t 50)),Op2.mk none none (Ins.st 1 (t 65) (t 60)),cO 66 (ixaS 1 (t 51) (t 54)),Op2.mk none none (Ins.st 1 (t 66) (t 64))])))).seq (ops 0 [cO 36 (cM 11),cO 37 (cB .add (t 36) (cN 1)),cO 11 (cM 37)]))).loop)))) skip))))
theorem xx:Is Tryz.prog 124 yT:=Is.mk' Tryz.func124 (by kernel_rfl)
def yR:F2:=(F2.mk 63 [RV.t 8,RV.t 9] ((ops 0 [cO 8 (mov (cN 0)),cO 9 (mov (cN 0))]).seq ((ops 0 [cO 15 (cM 2),cO 16 (cM 1),cO 17 (cB .sub (t 15) (t 16)),cO 10 (cM 17)]).seq ((ops 0 [cO 11 (alloc (AV.int IntKind.i64 (0)))]).seq ((ops 0 [cO 18 (cM 1),cO 19 (cM 10),cO 20 (cB .quo (t 19) (cN 4)),cO 21 (cB .mul (t 20) (cN 1)),cO 22 (cB .add (t 18) (t 21)),cO 12 (cM 22)]).seq ((ops 0 [cO 23 (cM 1),cO 24 (cM 10),cO 25 (cB .quo (t 24) (cN 4)),cO 26 (cB .mul (t 25) (cN 2)),cO 27 (cB .add (t 23) (t 26)),cO 13 (cM 27)]).seq ((ops 0 [cO 28 (cM 1),cO 29 (cM 10),cO 30 (cB .quo (t 29) (cN 4)),cO 31 (cB .mul (t 30) (cN 3)),cO 32 (cB .add (t 28) (t 31)),cO 14 (cM 32)]).seq (((ops 0 [cO 33 (cM 10),cO 34 (cB .geq (t 33) (cN 8))]).seq (C2.cond (t 34) (((ops 0 [cO 35 (cM 10),cO 36 (cB .geq (t 35) (cN 50))]).seq (C2.cond (t 36) ((ops 0 [cO 37 (cM 0),cO 38 (cM 12),cO 39 (cM 3),cO 40 (call (cF 138) [t 37,t 38,t 11,t 39]),cO 12 (cM 40)]).seq ((ops 0 [cO 41 (cM 0),cO 42 (cM 13),cO 43 (cM 3),cO 44 (call (cF 138) [t 41,t 42,t 11,t 43]),cO 13 (cM 44)]).seq (ops 0 [cO 45 (cM 0),cO 46 (cM 14),cO 47 (cM 3),cO 48 (call (cF 138) [t 45,t 46,t 11,t 47]),cO 14 (cM 48)]))) skip)).seq (ops 0 [cO 49 (cM 0),cO 50 (cM 12),cO 51 (cM 13),cO 52 (cM 14),cO 53 (cM 3),cO 54 (call (cF 139) [t 49,t 50,t 51,t 52,t 11,t 53]),cO 13 (cM 54)])) skip)).seq ((ops 0 [cO 55 (cD 11)]).seq (block 0 ((ops 0 [cO 58 (cB .eql (t 55) (cN 0)),cO 57 (cM 58)]).seq (C2.cond (t 57) ((ops 0 [cO 59 (cM 13),cO 8 (cM 59),cO 9 (mov (cN 1))]).seq ret) ((ops 0 [cO 61 (cB .eql (t 55) (cN 12)),cO 60 (cM 61)]).seq (C2.cond (t 60) ((ops 0 [cO 62 (cM 13),cO 8 (cM 62),cO 9 (mov (cN 2))]).seq ret) ((ops 0 [cO 56 (cM 13),cO 8 (cM 56),cO 9 (mov (cN 0))]).seq ret)))))))))))))))
theorem xz:Is Tryz.prog 125 yR:=Is.mk' Tryz.func125 (by kernel_rfl)
def yz:F2:=(F2.mk 34 [] ((ops 0 [cO 10 (cM 1),cO 8 (cM 10)]).seq ((ops 0 [cO 11 (cM 2),cO 12 (cB .sub (t 11) (cN 1)),cO 9 (cM 12)]).seq (block 0 (((ops 0 [cO 13 (cM 8),cO 14 (cM 9),cO 15 (cB .lss (t 13) (t 14))]).seq (C2.cond (t 15) skip (exit 0))).seq (block 1 ((ops 1 [cO 16 (cM 0),cO 17 (cM 8),cO 18 (cM 0),cO 19 (cM 9),cO 20 (cM 0),cO 21 (cM 9),cO 22 (ixaS 1 (t 20) (t 21)),cO 23 (cD 22),cO 24 (cM 0),cO 25 (cM 8),cO 26 (ixaS 1 (t 24) (t 25)),cO 27 (cD 26),cO 28 (ixaS 1 (t 16) (t 17)),Op2.mk none none (Ins.st 1 (t 28) (t 23)),cO 29 (ixaS 1 (t 18) (t 19)),Op2.mk none none (Ins.st 1 (t 29) (t 27))]).seq ((ops 0 [cO 30 (cM 8),cO 31 (cB .add (t 30) (cN 1)),cO 8 (cM 31)]).seq (ops 0 [cO 32 (cM 9),cO 33 (cB .sub (t 32) (cN 1)),cO 9 (cM 33)]))))).loop))))
theorem xm:Is Tryz.prog 126 yz:=Is.mk' Tryz.func126 (by kernel_rfl)
def zn:F2:=(F2.mk 141 [RV.t 8] ((ops 0 [cO 8 (mov ax)]).seq ((ops 0 [cO 13 (cM 1),cO 14 (cB .add (t 13) (cN 1)),cO 9 (cM 14)]).seq (((ops 0 [cO 10 (mov (cN 0))]).seq (block 0 (((ops 0 [cO 15 (cM 10),cO 16 (cB .lss (t 15) (cN 5))]).seq (C2.cond (t 16) skip (exit 0))).seq ((block 1 ((block 2 (((mixS 1 [cO 19 (cM 9),cO 20 (cM 2),cO 21 (cB .lss (t 19) (t 20)),cO 22 (cM 21),cG 23 22 true (cM 3),cG 24 22 true (cM 0),cG 25 22 true (cM 9),cG 26 22 true (ixaS 1 (t 24) (t 25)),cG 27 22 true (cD 26),cG 28 22 true (cM 0),cG 29 22 true (cM 9),cG 30 22 true (cB .sub (t 29) (cN 1)),cG 31 22 true (ixaS 1 (t 28) (t 30)),cG 32 22 true (cD 31),cG 33 22 true (call (t 23) [t 27,t 32]),cG 34 22 true (cB .lss (t 33) (cN 0)),cG 35 22 true (un UnOp.not (t 34)),cO 36 (pick (t 22) (t 35) ax)] [(0,0),(1,0),(2,0),(3,0),(4,0),(5,0),(6,0),(7,0),(8,0),(9,0),(10,0),(11,0),(12,0),(13,0),(14,2),(15,0),(16,0),(17,0)]).seq (C2.cond (t 36) skip (exit 2))).seq (block 3 (ops 0 [cO 37 (cM 9),cO 38 (cB .add (t 37) (cN 1)),cO 9 (cM 38)]))).loop).seq (((ops 0 [cO 39 (cM 9),cO 40 (cM 2),cO 41 (cB .eql (t 39) (t 40))]).seq (C2.cond (t 41) ((ops 0 [cO 8 (mov aN)]).seq ret) skip)).seq (((ops 0 [cO 42 (cM 2),cO 43 (cM 1),cO 44 (cB .sub (t 42) (t 43)),cO 45 (cB .lss (t 44) (cN 50))]).seq (C2.cond (t 45) ((ops 0 [cO 8 (mov ax)]).seq ret) skip)).seq ((ops 1 [cO 46 (cM 0),cO 47 (cM 9),cO 48 (cM 0),cO 49 (cM 9),cO 50 (cB .sub (t 49) (cN 1)),cO 51 (cM 0),cO 52 (cM 9),cO 53 (cB .sub (t 52) (cN 1)),cO 54 (ixaS 1 (t 51) (t 53)),cO 55 (cD 54),cO 56 (cM 0),cO 57 (cM 9),cO 58 (ixaS 1 (t 56) (t 57)),cO 59 (cD 58),cO 60 (ixaS 1 (t 46) (t 47)),Op2.mk none none (Ins.st 1 (t 60) (t 55)),cO 61 (ixaS 1 (t 48) (t 50)),Op2.mk none none (Ins.st 1 (t 61) (t 59))]).seq (((ops 0 [cO 62 (cM 9),cO 63 (cM 1),cO 64 (cB .sub (t 62) (t 63)),cO 65 (cB .geq (t 64) (cN 2))]).seq (C2.cond (t 65) ((ops 0 [cO 66 (cM 9),cO 67 (cB .sub (t 66) (cN 1)),cO 11 (cM 67)]).seq (block 4 (((ops 0 [cO 68 (cM 11),cO 69 (cB .geq (t 68) (cN 1))]).seq (C2.cond (t 69) skip (exit 4))).seq ((block 5 (((mixS 1 [cO 72 (cM 3),cO 73 (cM 0),cO 74 (cM 11),cO 75 (ixaS 1 (t 73) (t 74)),cO 76 (cD 75),cO 77 (cM 0),cO 78 (cM 11),cO 79 (cB .sub (t 78) (cN 1)),cO 80 (ixaS 1 (t 77) (t 79)),cO 81 (cD 80),cO 82 (call (t 72) [t 76,t 81]),cO 83 (cB .lss (t 82) (cN 0)),cO 84 (un UnOp.not (t 83))] [(0,0),(1,0),(2,0),(3,0),(4,0),(5,0),(6,0),(7,0),(8,0),(9,0),(10,2),(11,0),(12,0)]).seq (C2.cond (t 84) (exit 4) skip)).seq (ops 1 [cO 85 (cM 0),cO 86 (cM 11),cO 87 (cM 0),cO 88 (cM 11),cO 89 (cB .sub (t 88) (cN 1)),cO 90 (cM 0),cO 91 (cM 11),cO 92 (cB .sub (t 91) (cN 1)),cO 93 (ixaS 1 (t 90) (t 92)),cO 94 (cD 93),cO 95 (cM 0),cO 96 (cM 11),cO 97 (ixaS 1 (t 95) (t 96)),cO 98 (cD 97),cO 99 (ixaS 1 (t 85) (t 86)),Op2.mk none none (Ins.st 1 (t 99) (t 94)),cO 100 (ixaS 1 (t 87) (t 89)),Op2.mk none none (Ins.st 1 (t 100) (t 98))]))).seq (ops 0 [cO 70 (cM 11),cO 71 (cB .sub (t 70) (cN 1)),cO 11 (cM 71)]))).loop)) skip)).seq ((ops 0 [cO 101 (cM 2),cO 102 (cM 9),cO 103 (cB .sub (t 101) (t 102)),cO 104 (cB .geq (t 103) (cN 2))]).seq (C2.cond (t 104) ((ops 0 [cO 105 (cM 9),cO 106 (cB .add (t 105) (cN 1)),cO 12 (cM 106)]).seq (block 6 (((ops 0 [cO 107 (cM 12),cO 108 (cM 2),cO 109 (cB .lss (t 107) (t 108))]).seq (C2.cond (t 109) skip (exit 6))).seq ((block 7 (((mixS 1 [cO 112 (cM 3),cO 113 (cM 0),cO 114 (cM 12),cO 115 (ixaS 1 (t 113) (t 114)),cO 116 (cD 115),cO 117 (cM 0),cO 118 (cM 12),cO 119 (cB .sub (t 118) (cN 1)),cO 120 (ixaS 1 (t 117) (t 119)),cO 121 (cD 120),cO 122 (call (t 112) [t 116,t 121]),cO 123 (cB .lss (t 122) (cN 0)),cO 124 (un UnOp.not (t 123))] [(0,0),(1,0),(2,0),(3,0),(4,0),(5,0),(6,0),(7,0),(8,0),(9,0),(10,2),(11,0),(12,0)]).seq (C2.cond (t 124) (exit 6) skip)).seq (ops 1 [cO 125 (cM 0),cO 126 (cM 12),cO 127 (cM 0),cO 128 (cM 12),cO 129 (cB .sub (t 128) (cN 1)),cO 130 (cM 0),cO 131 (cM 12),cO 132 (cB .sub (t 131) (cN 1)),cO 133 (ixaS 1 (t 130) (t 132)),cO 134 (cD 133),cO 135 (cM 0),cO 136 (cM 12),cO 137 (ixaS 1 (t 135) (t 136)),cO 138 (cD 137),cO 139 (ixaS 1 (t 125) (t 126)),Op2.mk none none (Ins.st 1 (t 139) (t 134)),cO 140 (ixaS 1 (t 127) (t 129)),Op2.mk none none (Ins.st 1 (t 140) (t 138))]))).seq (ops 0 [cO 110 (cM 12),cO 111 (cB .add (t 110) (cN 1)),cO 12 (cM 111)]))).loop)) skip)))))))).seq (ops 0 [cO 17 (cM 10),cO 18 (cB .add (t 17) (cN 1)),cO 10 (cM 18)]))).loop)).seq ((ops 0 [cO 8 (mov ax)]).seq ret)))))
theorem xq:Is Tryz.prog 127 zn:=Is.mk' Tryz.func127 (by kernel_rfl)
def zy:F2:=(F2.mk 90 [RV.t 10] ((ops 0 [cO 10 (mov (cN 0))]).seq ((ops 1 [cO 13 (cM 0),cO 14 (cM 1),cO 15 (cM 0),cO 16 (cM 3),cO 17 (cM 0),cO 18 (cM 3),cO 19 (ixaS 1 (t 17) (t 18)),cO 20 (cD 19),cO 21 (cM 0),cO 22 (cM 1),cO 23 (ixaS 1 (t 21) (t 22)),cO 24 (cD 23),cO 25 (ixaS 1 (t 13) (t 14)),Op2.mk none none (Ins.st 1 (t 25) (t 20)),cO 26 (ixaS 1 (t 15) (t 16)),Op2.mk none none (Ins.st 1 (t 26) (t 24))]).seq ((ops 0 [cO 27 (cM 1),cO 28 (cB .add (t 27) (cN 1)),cO 29 (cM 2),cO 30 (cB .sub (t 29) (cN 1)),cO 11 (cM 28),cO 12 (cM 30)]).seq ((block 0 (block 1 ((block 2 (((mixS 1 [cO 31 (cM 11),cO 32 (cM 12),cO 33 (cB .leq (t 31) (t 32)),cO 34 (cM 33),cG 35 34 true (cM 4),cG 36 34 true (cM 0),cG 37 34 true (cM 1),cG 38 34 true (ixaS 1 (t 36) (t 37)),cG 39 34 true (cD 38),cG 40 34 true (cM 0),cG 41 34 true (cM 11),cG 42 34 true (ixaS 1 (t 40) (t 41)),cG 43 34 true (cD 42),cG 44 34 true (call (t 35) [t 39,t 43]),cG 45 34 true (cB .lss (t 44) (cN 0)),cG 46 34 true (un UnOp.not (t 45)),cO 47 (pick (t 34) (t 46) ax)] [(0,0),(1,0),(2,0),(3,0),(4,0),(5,0),(6,0),(7,0),(8,0),(9,0),(10,0),(11,0),(12,0),(13,2),(14,0),(15,0),(16,0)]).seq (C2.cond (t 47) skip (exit 2))).seq (block 3 (ops 0 [cO 48 (cM 11),cO 49 (cB .add (t 48) (cN 1)),cO 11 (cM 49)]))).loop).seq ((block 4 (((mixS 1 [cO 50 (cM 11),cO 51 (cM 12),cO 52 (cB .leq (t 50) (t 51)),cO 53 (cM 52),cG 54 53 true (cM 4),cG 55 53 true (cM 0),cG 56 53 true (cM 1),cG 57 53 true (ixaS 1 (t 55) (t 56)),cG 58 53 true (cD 57),cG 59 53 true (cM 0),cG 60 53 true (cM 12),cG 61 53 true (ixaS 1 (t 59) (t 60)),cG 62 53 true (cD 61),cG 63 53 true (call (t 54) [t 58,t 62]),cG 64 53 true (cB .lss (t 63) (cN 0)),cO 65 (pick (t 53) (t 64) ax)] [(0,0),(1,0),(2,0),(3,0),(4,0),(5,0),(6,0),(7,0),(8,0),(9,0),(10,0),(11,0),(12,0),(13,2),(14,0),(15,0)]).seq (C2.cond (t 65) skip (exit 4))).seq (block 5 (ops 0 [cO 66 (cM 12),cO 67 (cB .sub (t 66) (cN 1)),cO 12 (cM 67)]))).loop).seq (((ops 0 [cO 68 (cM 11),cO 69 (cM 12),cO 70 (cB .gtr (t 68) (t 69))]).seq (C2.cond (t 70) (exit 0) skip)).seq ((ops 1 [cO 71 (cM 0),cO 72 (cM 11),cO 73 (cM 0),cO 74 (cM 12),cO 75 (cM 0),cO 76 (cM 12),cO 77 (ixaS 1 (t 75) (t 76)),cO 78 (cD 77),cO 79 (cM 0),cO 80 (cM 11),cO 81 (ixaS 1 (t 79) (t 80)),cO 82 (cD 81),cO 83 (ixaS 1 (t 71) (t 72)),Op2.mk none none (Ins.st 1 (t 83) (t 78)),cO 84 (ixaS 1 (t 73) (t 74)),Op2.mk none none (Ins.st 1 (t 84) (t 82))]).seq ((ops 0 [cO 85 (cM 11),cO 86 (cB .add (t 85) (cN 1)),cO 11 (cM 86)]).seq (ops 0 [cO 87 (cM 12),cO 88 (cB .sub (t 87) (cN 1)),cO 12 (cM 88)]))))))).loop).seq ((ops 0 [cO 89 (cM 11),cO 10 (cM 89)]).seq ret))))))
theorem xE:Is Tryz.prog 128 zy:=Is.mk' Tryz.func128 (by kernel_rfl)
def y8:F2:=(F2.mk 178 [RV.t 10,RV.t 11] ((ops 0 [cO 10 (mov (cN 0)),cO 11 (mov ax)]).seq ((ops 1 [cO 14 (cM 0),cO 15 (cM 1),cO 16 (cM 0),cO 17 (cM 3),cO 18 (cM 0),cO 19 (cM 3),cO 20 (ixaS 1 (t 18) (t 19)),cO 21 (cD 20),cO 22 (cM 0),cO 23 (cM 1),cO 24 (ixaS 1 (t 22) (t 23)),cO 25 (cD 24),cO 26 (ixaS 1 (t 14) (t 15)),Op2.mk none none (Ins.st 1 (t 26) (t 21)),cO 27 (ixaS 1 (t 16) (t 17)),Op2.mk none none (Ins.st 1 (t 27) (t 25))]).seq ((ops 0 [cO 28 (cM 1),cO 29 (cB .add (t 28) (cN 1)),cO 30 (cM 2),cO 31 (cB .sub (t 30) (cN 1)),cO 12 (cM 29),cO 13 (cM 31)]).seq ((block 0 (((mixS 1 [cO 32 (cM 12),cO 33 (cM 13),cO 34 (cB .leq (t 32) (t 33)),cO 35 (cM 34),cG 36 35 true (cM 4),cG 37 35 true (cM 0),cG 38 35 true (cM 12),cG 39 35 true (ixaS 1 (t 37) (t 38)),cG 40 35 true (cD 39),cG 41 35 true (cM 0),cG 42 35 true (cM 1),cG 43 35 true (ixaS 1 (t 41) (t 42)),cG 44 35 true (cD 43),cG 45 35 true (call (t 36) [t 40,t 44]),cG 46 35 true (cB .lss (t 45) (cN 0)),cO 47 (pick (t 35) (t 46) ax)] [(0,0),(1,0),(2,0),(3,0),(4,0),(5,0),(6,0),(7,0),(8,0),(9,0),(10,0),(11,0),(12,0),(13,2),(14,0),(15,0)]).seq (C2.cond (t 47) skip (exit 0))).seq (block 1 (ops 0 [cO 48 (cM 12),cO 49 (cB .add (t 48) (cN 1)),cO 12 (cM 49)]))).loop).seq ((block 2 (((mixS 1 [cO 50 (cM 12),cO 51 (cM 13),cO 52 (cB .leq (t 50) (t 51)),cO 53 (cM 52),cG 54 53 true (cM 4),cG 55 53 true (cM 0),cG 56 53 true (cM 13),cG 57 53 true (ixaS 1 (t 55) (t 56)),cG 58 53 true (cD 57),cG 59 53 true (cM 0),cG 60 53 true (cM 1),cG 61 53 true (ixaS 1 (t 59) (t 60)),cG 62 53 true (cD 61),cG 63 53 true (call (t 54) [t 58,t 62]),cG 64 53 true (cB .lss (t 63) (cN 0)),cG 65 53 true (un UnOp.not (t 64)),cO 66 (pick (t 53) (t 65) ax)] [(0,0),(1,0),(2,0),(3,0),(4,0),(5,0),(6,0),(7,0),(8,0),(9,0),(10,0),(11,0),(12,0),(13,2),(14,0),(15,0),(16,0)]).seq (C2.cond (t 66) skip (exit 2))).seq (block 3 (ops 0 [cO 67 (cM 13),cO 68 (cB .sub (t 67) (cN 1)),cO 13 (cM 68)]))).loop).seq (((ops 0 [cO 69 (cM 12),cO 70 (cM 13),cO 71 (cB .gtr (t 69) (t 70))]).seq (C2.cond (t 71) ((ops 1 [cO 72 (cM 0),cO 73 (cM 13),cO 74 (cM 0),cO 75 (cM 1),cO 76 (cM 0),cO 77 (cM 1),cO 78 (ixaS 1 (t 76) (t 77)),cO 79 (cD 78),cO 80 (cM 0),cO 81 (cM 13),cO 82 (ixaS 1 (t 80) (t 81)),cO 83 (cD 82),cO 84 (ixaS 1 (t 72) (t 73)),Op2.mk none none (Ins.st 1 (t 84) (t 79)),cO 85 (ixaS 1 (t 74) (t 75)),Op2.mk none none (Ins.st 1 (t 85) (t 83))]).seq ((ops 0 [cO 86 (cM 13),cO 10 (cM 86),cO 11 (mov aN)]).seq ret)) skip)).seq ((ops 1 [cO 87 (cM 0),cO 88 (cM 12),cO 89 (cM 0),cO 90 (cM 13),cO 91 (cM 0),cO 92 (cM 13),cO 93 (ixaS 1 (t 91) (t 92)),cO 94 (cD 93),cO 95 (cM 0),cO 96 (cM 12),cO 97 (ixaS 1 (t 95) (t 96)),cO 98 (cD 97),cO 99 (ixaS 1 (t 87) (t 88)),Op2.mk none none (Ins.st 1 (t 99) (t 94)),cO 100 (ixaS 1 (t 89) (t 90)),Op2.mk none none (Ins.st 1 (t 100) (t 98))]).seq ((ops 0 [cO 101 (cM 12),cO 102 (cB .add (t 101) (cN 1)),cO 12 (cM 102)]).seq ((ops 0 [cO 103 (cM 13),cO 104 (cB .sub (t 103) (cN 1)),cO 13 (cM 104)]).seq ((block 4 (block 5 ((block 6 (((mixS 1 [cO 105 (cM 12),cO 106 (cM 13),cO 107 (cB .leq (t 105) (t 106)),cO 108 (cM 107),cG 109 108 true (cM 4),cG 110 108 true (cM 0),cG 111 108 true (cM 12),cG 112 108 true (ixaS 1 (t 110) (t 111)),cG 113 108 true (cD 112),cG 114 108 true (cM 0),cG 115 108 true (cM 1),cG 116 108 true (ixaS 1 (t 114) (t 115)),cG 117 108 true (cD 116),cG 118 108 true (call (t 109) [t 113,t 117]),cG 119 108 true (cB .lss (t 118) (cN 0)),cO 120 (pick (t 108) (t 119) ax)] [(0,0),(1,0),(2,0),(3,0),(4,0),(5,0),(6,0),(7,0),(8,0),(9,0),(10,0),(11,0),(12,0),(13,2),(14,0),(15,0)]).seq (C2.cond (t 120) skip (exit 6))).seq (block 7 (ops 0 [cO 121 (cM 12),cO 122 (cB .add (t 121) (cN 1)),cO 12 (cM 122)]))).loop).seq ((block 8 (((mixS 1 [cO 123 (cM 12),cO 124 (cM 13),cO 125 (cB .leq (t 123) (t 124)),cO 126 (cM 125),cG 127 126 true (cM 4),cG 128 126 true (cM 0),cG 129 126 true (cM 13),cG 130 126 true (ixaS 1 (t 128) (t 129)),cG 131 126 true (cD 130),cG 132 126 true (cM 0),cG 133 126 true (cM 1),cG 134 126 true (ixaS 1 (t 132) (t 133)),cG 135 126 true (cD 134),cG 136 126 true (call (t 127) [t 131,t 135]),cG 137 126 true (cB .lss (t 136) (cN 0)),cG 138 126 true (un UnOp.not (t 137)),cO 139 (pick (t 126) (t 138) ax)] [(0,0),(1,0),(2,0),(3,0),(4,0),(5,0),(6,0),(7,0),(8,0),(9,0),(10,0),(11,0),(12,0),(13,2),(14,0),(15,0),(16,0)]).seq (C2.cond (t 139) skip (exit 8))).seq (block 9 (ops 0 [cO 140 (cM 13),cO 141 (cB .sub (t 140) (cN 1)),cO 13 (cM 141)]))).loop).seq (((ops 0 [cO 142 (cM 12),cO 143 (cM 13),cO 144 (cB .gtr (t 142) (t 143))]).seq (C2.cond (t 144) (exit 4) skip)).seq ((ops 1 [cO 145 (cM 0),cO 146 (cM 12),cO 147 (cM 0),cO 148 (cM 13),cO 149 (cM 0),cO 150 (cM 13),cO 151 (ixaS 1 (t 149) (t 150)),cO 152 (cD 151),cO 153 (cM 0),cO 154 (cM 12),cO 155 (ixaS 1 (t 153) (t 154)),cO 156 (cD 155),cO 157 (ixaS 1 (t 145) (t 146)),Op2.mk none none (Ins.st 1 (t 157) (t 152)),cO 158 (ixaS 1 (t 147) (t 148)),Op2.mk none none (Ins.st 1 (t 158) (t 156))]).seq ((ops 0 [cO 159 (cM 12),cO 160 (cB .add (t 159) (cN 1)),cO 12 (cM 160)]).seq (ops 0 [cO 161 (cM 13),cO 162 (cB .sub (t 161) (cN 1)),cO 13 (cM 162)]))))))).loop).seq ((ops 1 [cO 163 (cM 0),cO 164 (cM 13),cO 165 (cM 0),cO 166 (cM 1),cO 167 (cM 0),cO 168 (cM 1),cO 169 (ixaS 1 (t 167) (t 168)),cO 170 (cD 169),cO 171 (cM 0),cO 172 (cM 13),cO 173 (ixaS 1 (t 171) (t 172)),cO 174 (cD 173),cO 175 (ixaS 1 (t 163) (t 164)),Op2.mk none none (Ins.st 1 (t 175) (t 170)),cO 176 (ixaS 1 (t 165) (t 166)),Op2.mk none none (Ins.st 1 (t 176) (t 174))]).seq ((ops 0 [cO 177 (cM 13),cO 10 (cM 177),cO 11 (mov ax)]).seq ret)))))))))))))
theorem xu:Is Tryz.prog 129 y8:=Is.mk' Tryz.func129 (by kernel_rfl)
def zs:F2:=(F2.mk 82 [] ((ops 0 [cO 12 (cM 1),cO 10 (cM 12)]).seq (block 0 (block 1 ((ops 0 [cO 13 (cM 10),cO 14 (cB .mul (cN 2) (t 13)),cO 15 (cB .add (t 14) (cN 1)),cO 11 (cM 15)]).seq (((ops 0 [cO 16 (cM 11),cO 17 (cM 2),cO 18 (cB .geq (t 16) (t 17))]).seq (C2.cond (t 18) (exit 0) skip)).seq (((mixS 1 [cO 19 (cM 11),cO 20 (cB .add (t 19) (cN 1)),cO 21 (cM 2),cO 22 (cB .lss (t 20) (t 21)),cO 23 (cM 22),cG 24 23 true (cM 4),cG 25 23 true (cM 0),cG 26 23 true (cM 3),cG 27 23 true (cM 11),cG 28 23 true (cB .add (t 26) (t 27)),cG 29 23 true (ixaS 2 (t 25) (t 28)),cG 30 23 true (ldn 2 (t 29)),cG 31 23 true (cM 0),cG 32 23 true (cM 3),cG 33 23 true (cM 11),cG 34 23 true (cB .add (t 32) (t 33)),cG 35 23 true (cB .add (t 34) (cN 1)),cG 36 23 true (ixaS 2 (t 31) (t 35)),cG 37 23 true (ldn 2 (t 36)),cG 38 23 true (call (t 24) [t 30,t 37]),cG 39 23 true (cB .lss (t 38) (cN 0)),cO 40 (pick (t 23) (t 39) ax)] [(0,0),(1,0),(2,0),(3,0),(4,0),(5,0),(6,0),(7,0),(8,0),(9,0),(10,0),(11,0),(12,0),(13,0),(14,0),(15,0),(16,0),(17,0),(18,0),(19,2),(20,0),(21,0)]).seq (C2.cond (t 40) (ops 0 [cO 41 (cM 11),cO 42 (cB .add (t 41) (cN 1)),cO 11 (cM 42)]) skip)).seq (((mixS 1 [cO 43 (cM 4),cO 44 (cM 0),cO 45 (cM 3),cO 46 (cM 10),cO 47 (cB .add (t 45) (t 46)),cO 48 (ixaS 2 (t 44) (t 47)),cO 49 (ldn 2 (t 48)),cO 50 (cM 0),cO 51 (cM 3),cO 52 (cM 11),cO 53 (cB .add (t 51) (t 52)),cO 54 (ixaS 2 (t 50) (t 53)),cO 55 (ldn 2 (t 54)),cO 56 (call (t 43) [t 49,t 55]),cO 57 (cB .lss (t 56) (cN 0)),cO 58 (un UnOp.not (t 57))] [(0,0),(1,0),(2,0),(3,0),(4,0),(5,0),(6,0),(7,0),(8,0),(9,0),(10,0),(11,0),(12,0),(13,2),(14,0),(15,0)]).seq (C2.cond (t 58) ret skip)).seq ((ops 1 [cO 59 (cM 0),cO 60 (cM 3),cO 61 (cM 10),cO 62 (cB .add (t 60) (t 61)),cO 63 (cM 0),cO 64 (cM 3),cO 65 (cM 11),cO 66 (cB .add (t 64) (t 65)),cO 67 (cM 0),cO 68 (cM 3),cO 69 (cM 11),cO 70 (cB .add (t 68) (t 69)),cO 71 (ixaS 2 (t 67) (t 70)),cO 72 (ldn 2 (t 71)),cO 73 (cM 0),cO 74 (cM 3),cO 75 (cM 10),cO 76 (cB .add (t 74) (t 75)),cO 77 (ixaS 2 (t 73) (t 76)),cO 78 (ldn 2 (t 77)),cO 79 (ixaS 2 (t 59) (t 62)),Op2.mk none none (Ins.st 2 (t 79) (t 72)),cO 80 (ixaS 2 (t 63) (t 66)),Op2.mk none none (Ins.st 2 (t 80) (t 78))]).seq (ops 0 [cO 81 (cM 11),cO 10 (cM 81)]))))))).loop)))
theorem xX:Is Tryz.prog 132 zs:=Is.mk' Tryz.func132 (by kernel_rfl)
def zq:F2:=(F2.mk 7 [RV.t 2] ((ops 0 [cO 2 (mov (c (AV.int IntKind.u64 (0))))]).seq ((ops 0 [cO 3 (cM 0),cO 4 (conv IntKind.u64 (t 3)),cO 5 (call (cF 104) [t 4]),cO 6 (cB .shl (c (AV.int IntKind.u64 (1))) (t 5)),cO 2 (cM 6)]).seq ret)))
theorem xO:Is Tryz.prog 133 zq:=Is.mk' Tryz.func133 (by kernel_rfl)
def yN:F2:=(F2.mk 33 [RV.t 2] ((ops 0 [cO 2 (mov (c (AV.int IntKind.u64 (0))))]).seq ((ops 1 [cO 3 (cM 0),cO 4 (nilck (t 3)),cO 5 (cD 4),cO 6 (cM 0),cO 7 (nilck (t 6)),cO 8 (cD 7),cO 9 (cB .shl (t 8) (c (AV.int IntKind.u64 (13)))),cO 10 (cB .xor (t 5) (t 9)),cO 11 (nilck (t 3)),Op2.mk none none (Ins.st 1 (t 11) (t 10))]).seq ((ops 1 [cO 12 (cM 0),cO 13 (nilck (t 12)),cO 14 (cD 13),cO 15 (cM 0),cO 16 (nilck (t 15)),cO 17 (cD 16),cO 18 (cB .shr (t 17) (c (AV.int IntKind.u64 (7)))),cO 19 (cB .xor (t 14) (t 18)),cO 20 (nilck (t 12)),Op2.mk none none (Ins.st 1 (t 20) (t 19))]).seq ((ops 1 [cO 21 (cM 0),cO 22 (nilck (t 21)),cO 23 (cD 22),cO 24 (cM 0),cO 25 (nilck (t 24)),cO 26 (cD 25),cO 27 (cB .shl (t 26) (c (AV.int IntKind.u64 (17)))),cO 28 (cB .xor (t 23) (t 27)),cO 29 (nilck (t 21)),Op2.mk none none (Ins.st 1 (t 29) (t 28))]).seq ((ops 0 [cO 30 (cM 0),cO 31 (nilck (t 30)),cO 32 (cD 31),cO 2 (cM 32)]).seq ret))))))
theorem ya:Is Tryz.prog 134 yN:=Is.mk' Tryz.func134 (by kernel_rfl)
def yL:F2:=(F2.mk 18 [RV.t 8] ((ops 0 [cO 8 (mov (cN 0))]).seq ((ops 0 [cO 9 (cM 0),cO 10 (cM 1),cO 11 (cB .sub (t 10) (cN 1)),cO 12 (cM 1),cO 13 (cM 1),cO 14 (cB .add (t 13) (cN 1)),cO 15 (cM 2),cO 16 (cM 3),cO 17 (call (cF 136) [t 9,t 11,t 12,t 14,t 15,t 16]),cO 8 (cM 17)]).seq ret)))
theorem yc:Is Tryz.prog 135 yL:=Is.mk' Tryz.func135 (by kernel_rfl)
def zi:F2:=(F2.mk 41 [RV.t 12] ((ops 0 [cO 12 (mov (cN 0))]).seq ((ops 0 [cO 14 (cM 0),cO 15 (cM 1),cO 16 (cM 2),cO 17 (cM 4),cO 18 (cM 5),cO 19 (call (cF 143) [t 14,t 15,t 16,t 17,t 18]),cO 13 (cM 19),cO 20 (ext (t 13) 0),cO 21 (ext (t 13) 1),cO 1 (cM 20),cO 2 (cM 21)]).seq ((ops 0 [cO 23 (cM 0),cO 24 (cM 2),cO 25 (cM 3),cO 26 (cM 4),cO 27 (cM 5),cO 28 (call (cF 143) [t 23,t 24,t 25,t 26,t 27]),cO 22 (cM 28),cO 29 (ext (t 22) 0),cO 30 (ext (t 22) 1),cO 2 (cM 29),cO 3 (cM 30)]).seq ((ops 0 [cO 32 (cM 0),cO 33 (cM 1),cO 34 (cM 2),cO 35 (cM 4),cO 36 (cM 5),cO 37 (call (cF 143) [t 32,t 33,t 34,t 35,t 36]),cO 31 (cM 37),cO 38 (ext (t 31) 0),cO 39 (ext (t 31) 1),cO 1 (cM 38),cO 2 (cM 39)]).seq ((ops 0 [cO 40 (cM 2),cO 12 (cM 40)]).seq ret))))))
theorem xV:Is Tryz.prog 136 zi:=Is.mk' Tryz.func136 (by kernel_rfl)
def yw:F2:=(F2.mk 82 [] ((ops 0 [cO 12 (cM 1),cO 10 (cM 12)]).seq (block 0 (block 1 ((ops 0 [cO 13 (cM 10),cO 14 (cB .mul (cN 2) (t 13)),cO 15 (cB .add (t 14) (cN 1)),cO 11 (cM 15)]).seq (((ops 0 [cO 16 (cM 11),cO 17 (cM 2),cO 18 (cB .geq (t 16) (t 17))]).seq (C2.cond (t 18) (exit 0) skip)).seq (((mixS 1 [cO 19 (cM 11),cO 20 (cB .add (t 19) (cN 1)),cO 21 (cM 2),cO 22 (cB .lss (t 20) (t 21)),cO 23 (cM 22),cG 24 23 true (cM 4),cG 25 23 true (cM 0),cG 26 23 true (cM 3),cG 27 23 true (cM 11),cG 28 23 true (cB .add (t 26) (t 27)),cG 29 23 true (ixaS 1 (t 25) (t 28)),cG 30 23 true (cD 29),cG 31 23 true (cM 0),cG 32 23 true (cM 3),cG 33 23 true (cM 11),cG 34 23 true (cB .add (t 32) (t 33)),cG 35 23 true (cB .add (t 34) (cN 1)),cG 36 23 true (ixaS 1 (t 31) (t 35)),cG 37 23 true (cD 36),cG 38 23 true (call (t 24) [t 30,t 37]),cG 39 23 true (cB .lss (t 38) (cN 0)),cO 40 (pick (t 23) (t 39) ax)] [(0,0),(1,0),(2,0),(3,0),(4,0),(5,0),(6,0),(7,0),(8,0),(9,0),(10,0),(11,0),(12,0),(13,0),(14,0),(15,0),(16,0),(17,0),(18,0),(19,2),(20,0),(21,0)]).seq (C2.cond (t 40) (ops 0 [cO 41 (cM 11),cO 42 (cB .add (t 41) (cN 1)),cO 11 (cM 42)]) skip)).seq (((mixS 1 [cO 43 (cM 4),cO 44 (cM 0),cO 45 (cM 3),cO 46 (cM 10),cO 47 (cB .add (t 45) (t 46)),cO 48 (ixaS 1 (t 44) (t 47)),cO 49 (cD 48),cO 50 (cM 0),cO 51 (cM 3),cO 52 (cM 11),cO 53 (cB .add (t 51) (t 52)),cO 54 (ixaS 1 (t 50) (t 53)),cO 55 (cD 54),cO 56 (call (t 43) [t 49,t 55]),cO 57 (cB .lss (t 56) (cN 0)),cO 58 (un UnOp.not (t 57))] [(0,0),(1,0),(2,0),(3,0),(4,0),(5,0),(6,0),(7,0),(8,0),(9,0),(10,0),(11,0),(12,0),(13,2),(14,0),(15,0)]).seq (C2.cond (t 58) ret skip)).seq ((ops 1 [cO 59 (cM 0),cO 60 (cM 3),cO 61 (cM 10),cO 62 (cB .add (t 60) (t 61)),cO 63 (cM 0),cO 64 (cM 3),cO 65 (cM 11),cO 66 (cB .add (t 64) (t 65)),cO 67 (cM 0),cO 68 (cM 3),cO 69 (cM 11),cO 70 (cB .add (t 68) (t 69)),cO 71 (ixaS 1 (t 67) (t 70)),cO 72 (cD 71),cO 73 (cM 0),cO 74 (cM 3),cO 75 (cM 10),cO 76 (cB .add (t 74) (t 75)),cO 77 (ixaS 1 (t 73) (t 76)),cO 78 (cD 77),cO 79 (ixaS 1 (t 59) (t 62)),Op2.mk none none (Ins.st 1 (t 79) (t 72)),cO 80 (ixaS 1 (t 63) (t 66)),Op2.mk none none (Ins.st 1 (t 80) (t 78))]).seq (ops 0 [cO 81 (cM 11),cO 10 (cM 81)]))))))).loop)))
theorem xI:Is Tryz.prog 137 yw:=Is.mk' Tryz.func137 (by kernel_rfl)
def yZ:F2:=(F2.mk 18 [RV.t 8] ((ops 0 [cO 8 (mov (cN 0))]).seq ((ops 0 [cO 9 (cM 0),cO 10 (cM 1),cO 11 (cB .sub (t 10) (cN 1)),cO 12 (cM 1),cO 13 (cM 1),cO 14 (cB .add (t 13) (cN 1)),cO 15 (cM 2),cO 16 (cM 3),cO 17 (call (cF 139) [t 9,t 11,t 12,t 14,t 15,t 16]),cO 8 (cM 17)]).seq ret)))
theorem xG:Is Tryz.prog 138 yZ:=Is.mk' Tryz.func138 (by kernel_rfl)
def zc:F2:=(F2.mk 41 [RV.t 12] ((ops 0 [cO 12 (mov (cN 0))]).seq ((ops 0 [cO 14 (cM 0),cO 15 (cM 1),cO 16 (cM 2),cO 17 (cM 4),cO 18 (cM 5),cO 19 (call (cF 144) [t 14,t 15,t 16,t 17,t 18]),cO 13 (cM 19),cO 20 (ext (t 13) 0),cO 21 (ext (t 13) 1),cO 1 (cM 20),cO 2 (cM 21)]).seq ((ops 0 [cO 23 (cM 0),cO 24 (cM 2),cO 25 (cM 3),cO 26 (cM 4),cO 27 (cM 5),cO 28 (call (cF 144) [t 23,t 24,t 25,t 26,t 27]),cO 22 (cM 28),cO 29 (ext (t 22) 0),cO 30 (ext (t 22) 1),cO 2 (cM 29),cO 3 (cM 30)]).seq ((ops 0 [cO 32 (cM 0),cO 33 (cM 1),cO 34 (cM 2),cO 35 (cM 4),cO 36 (cM 5),cO 37 (call (cF 144) [t 32,t 33,t 34,t 35,t 36]),cO 31 (cM 37),cO 38 (ext (t 31) 0),cO 39 (ext (t 31) 1),cO 1 (cM 38),cO 2 (cM 39)]).seq ((ops 0 [cO 40 (cM 2),cO 12 (cM 40)]).seq ret))))))
theorem xy:Is Tryz.prog 139 zc:=Is.mk' Tryz.func139 (by kernel_rfl)
def yu:F2:=(F2.mk 32 [RV.t 10,RV.t 11] ((ops 0 [cO 10 (mov (cN 0)),cO 11 (mov (cN 0))]).seq (((mixS 1 [cO 12 (cM 4),cO 13 (cM 0),cO 14 (cM 2),cO 15 (ixaS 2 (t 13) (t 14)),cO 16 (ldn 2 (t 15)),cO 17 (cM 0),cO 18 (cM 1),cO 19 (ixaS 2 (t 17) (t 18)),cO 20 (ldn 2 (t 19)),cO 21 (call (t 12) [t 16,t 20]),cO 22 (cB .lss (t 21) (cN 0))] [(0,0),(1,0),(2,0),(3,0),(4,0),(5,0),(6,0),(7,0),(8,0),(9,2),(10,0)]).seq (C2.cond (t 22) ((ops 0 [cO 23 (cM 3),cO 24 (nilck (t 23)),cO 25 (cD 24),cO 26 (cB .add (t 25) (cN 1)),cO 27 (nilck (t 23)),Op2.mk none none (Ins.st 1 (t 27) (t 26))]).seq ((ops 0 [cO 28 (cM 2),cO 29 (cM 1),cO 10 (cM 28),cO 11 (cM 29)]).seq ret)) skip)).seq ((ops 0 [cO 30 (cM 1),cO 31 (cM 2),cO 10 (cM 30),cO 11 (cM 31)]).seq ret))))
theorem x6:Is Tryz.prog 143 yu:=Is.mk' Tryz.func143 (by kernel_rfl)
def ze:F2:=(F2.mk 32 [RV.t 10,RV.t 11] ((ops 0 [cO 10 (mov (cN 0)),cO 11 (mov (cN 0))]).seq (((mixS 1 [cO 12 (cM 4),cO 13 (cM 0),cO 14 (cM 2),cO 15 (ixaS 1 (t 13) (t 14)),cO 16 (cD 15),cO 17 (cM 0),cO 18 (cM 1),cO 19 (ixaS 1 (t 17) (t 18)),cO 20 (cD 19),cO 21 (call (t 12) [t 16,t 20]),cO 22 (cB .lss (t 21) (cN 0))] [(0,0),(1,0),(2,0),(3,0),(4,0),(5,0),(6,0),(7,0),(8,0),(9,2),(10,0)]).seq (C2.cond (t 22) ((ops 0 [cO 23 (cM 3),cO 24 (nilck (t 23)),cO 25 (cD 24),cO 26 (cB .add (t 25) (cN 1)),cO 27 (nilck (t 23)),Op2.mk none none (Ins.st 1 (t 27) (t 26))]).seq ((ops 0 [cO 28 (cM 2),cO 29 (cM 1),cO 10 (cM 28),cO 11 (cM 29)]).seq ret)) skip)).seq ((ops 0 [cO 30 (cM 1),cO 31 (cM 2),cO 10 (cM 30),cO 11 (cM 31)]).seq ret))))
theorem xo:Is Tryz.prog 144 ze:=Is.mk' Tryz.func144 (by kernel_rfl)
end Go.Proofs.YtpfkjcjgdilkkaaGreat
namespace Go.Proofs.YtpfkjcjgdilkkaaGreat
open Go Go.Abs
def swp {α:Type} [Inhabited α] (L:List α) (i j:Nat):List α:=(L.set i (L.getD j default)).set j (L.getD i default)
structure PermR {α:Type} [Inhabited α] (a b:Nat) (L L':List α):Prop where
 len:L'.length=L.length
 out:∀ i,i < a ∨ b ≤ i→L'.getD i default=L.getD i default
 perm:L'.Perm L
section
variable {α:Type} [Inhabited α] {a b a' b':Nat} {L L' L'':List α}
theorem cJ {l:List α} {i j:Nat} {x:α} (h:i < l.length):(l.set i x).getD j default=if i=j then x else l.getD j default:=by
 simp only [List.getD,List.getElem?_set]
 split
 ·rename_i e; subst e; simp [h]
 ·rfl
theorem sC (i j:Nat):(swp L i j).length=L.length:=by simp [swp]
theorem cC {i j:Nat} (hi:i < L.length) (hj:j < L.length) (k:Nat):(swp L i j).getD k default=if k=j then L.getD i default else if k=i then L.getD j default else L.getD k default:=by
 unfold swp
 rw [cJ (by simpa using hj),cJ hi]
 by_cases e:k=j
 ·subst e; simp
 ·rw [if_neg (fun h=>e h.symm),if_neg e]
  by_cases e2:k=i
  ·subst e2; simp
  ·rw [if_neg (fun h=>e2 h.symm),if_neg e2]
theorem vn {i j:Nat} (hi:i < L.length) (hj:j < L.length):(swp L i j).Perm L:=by
 unfold swp
 have e1:L.getD i default=L[i]:=by simp [List.getD,hi]
 have e2:L.getD j default=L[j]:=by simp [List.getD,hj]
 rw [e1,e2]
 exact List.set_set_perm hi hj
theorem PermR.refl:PermR a b L L:=⟨rfl,fun _ _=>rfl,List.Perm.refl _⟩
theorem PermR.trans (h:PermR a b L L') (k:PermR a b L' L''):PermR a b L L'':=⟨k.len.trans h.len,fun i hi=>(k.out i hi).trans (h.out i hi),k.perm.trans h.perm⟩
theorem PermR.mono (h:PermR a' b' L L') (h1:a ≤ a') (h2:b' ≤ b):PermR a b L L':=⟨h.len,fun i hi=>h.out i (by omega),h.perm⟩
theorem PermR.swap {i j:Nat} (h1:a ≤ i∧i < b) (h2:a ≤ j∧j < b) (hb:b ≤ L.length):PermR a b L (swp L i j) :=
 ⟨sC i j,fun k hk=>by rw [cC (by omega) (by omega),if_neg (by omega),if_neg (by omega)],vn (by omega) (by omega)⟩
theorem pT {l m:List α} (hl:l.length=m.length) (h:∀ i,i < l.length→l.getD i default=m.getD i default):l=m :=
 List.ext_getElem hl (fun i h1 h2=>by
  have:=h i h1
  simpa [List.getD,h1,h2] using this)
theorem PermR.mid (h:PermR a b L L') (hab:a ≤ b) (hb:b ≤ L.length):((L'.drop a).take (b - a)).Perm ((L.drop a).take (b - a)):=by
 have e1:∀ M:List α,b ≤ M.length→M=M.take a ++ ((M.drop a).take (b - a) ++ M.drop b):=fun M hM=>by
  have:M.drop b=(M.drop a).drop (b - a):=by rw [List.drop_drop]; congr 1; omega
  rw [this,List.take_append_drop,List.take_append_drop]
 have t:L'.take a=L.take a:=pT (by simp [h.len]) (fun i hi=>by
  have hi':i < a:=by simp at hi; omega
  rw [nO hi',nO hi']; exact h.out i (.inl hi'))
 have d:L'.drop b=L.drop b:=pT (by simp [h.len]) (fun i hi=>by
  have e:∀ M:List α,(M.drop b).getD i default=M.getD (b + i) default:=fun M=>by simp [List.getD,List.getElem?_drop]
  rw [e,e]; exact h.out (b + i) (.inr (by omega)))
 have p:=h.perm
 rw [e1 L' (by rw [h.len]; exact hb),e1 L hb,t,d] at p
 exact (List.perm_append_right_iff _).1 ((List.perm_append_left_iff _).1 p)
theorem sa {M:List α} {x:α} (hab:a ≤ b) (hb:b ≤ M.length):x ∈ (M.drop a).take (b - a) ↔ ∃ i,a ≤ i∧i < b∧M.getD i default=x:=by
 constructor
 ·intro h
  obtain ⟨j,hj,e⟩:=List.getElem_of_mem h
  have hj':j < b - a:=by simp at hj; omega
  refine ⟨a + j,by omega,by omega,?_⟩
  rw [← e]
  simp [List.getD,List.getElem_take,List.getElem_drop,show a + j < M.length by omega]
 ·rintro ⟨i,h1,h2,rfl⟩
  rw [List.mem_iff_getElem?]
  refine ⟨i - a,?_⟩
  rw [List.getElem?_take,if_pos (by omega),List.getElem?_drop,show a + (i - a)=i by omega]
  simp [List.getD,show i < M.length by omega]
theorem PermR.all {p:α→Prop} (h:PermR a b L L') (hab:a ≤ b) (hb:b ≤ L.length) (hp:∀ i,a ≤ i→i < b→p (L.getD i default)):∀ i,a ≤ i→i < b→p (L'.getD i default):=by
 intro i h1 h2
 have hm:L'.getD i default ∈ (L'.drop a).take (b - a):=(sa hab (by rw [h.len]; exact hb)).2 ⟨i,h1,h2,rfl⟩
 obtain ⟨j,k1,k2,e⟩:=(sa hab hb).1 ((h.mid hab hb).mem_iff.1 hm)
 rw [← e]; exact hp j k1 k2
end
structure Ord {α:Type} (K:α→α→Int):Prop where
 irr:∀ x,¬ K x x < 0
 asym:∀ x y,K x y < 0→¬ K y x < 0
 negtr:∀ x y z,¬ K y x < 0→¬ K z y < 0→¬ K z x < 0
def aM {α:Type} [Inhabited α] (K:α→α→Int) (a b:Nat) (L:List α):Prop:=∀ i j,a ≤ i→i < j→j < b→¬ K (L.getD j default) (L.getD i default) < 0
theorem aM.one {α:Type} [Inhabited α] {K:α→α→Int} {a b:Nat} {L:List α} (h:b ≤ a + 1):aM K a b L:=fun i j h1 h2 h3=>by omega
end Go.Proofs.YtpfkjcjgdilkkaaGreat
namespace Go.Proofs.YtpfkjcjgdilkkaaGreat
open Go Go.Abs
structure LinK {α:Type} (K:α→α→Int):Prop where
 ord:Ord K
 eq:∀ x y,¬ K x y < 0→¬ K y x < 0→x=y
def cf {α:Type} (K:α→α→Int) (l:List α):Prop:=l.Pairwise fun x y=>K x y < 0
def oQ {α:Type} (K:α→α→Int):List α→α→List α
 | [],v=>[v]
 | a :: l,v=>if K v a < 0 then v :: a :: l else a :: oQ K l v
section
variable {α:Type} [DecidableEq α] {K:α→α→Int}
def nq (K:α→α→Int) (acc:List α) (v:α):List α:=if v ∈ acc then acc else oQ K acc v
def nu (K:α→α→Int) (acc l:List α):List α:=l.foldl (nq K) acc
def dY (K:α→α→Int) (l:List α):List α:=nu K [] l
omit [DecidableEq α] in
theorem cf.nil:cf K ([]:List α):=List.Pairwise.nil
omit [DecidableEq α] in
theorem cf.nodup {l:List α} (hK:LinK K) (h:cf K l):l.Nodup:=List.Pairwise.imp (fun {a b} h e=>by subst e; exact hK.ord.irr a h) h
omit [DecidableEq α] in
theorem LinK.tri (hK:LinK K) (x y:α):K x y < 0 ∨ x=y ∨ K y x < 0:=by
 by_cases h1:K x y < 0
 ·exact .inl h1
 ·by_cases h2:K y x < 0
  ·exact .inr (.inr h2)
  ·exact .inr (.inl (hK.eq x y h1 h2))
omit [DecidableEq α] in
theorem LinK.trans (hK:LinK K) {x y z:α} (h1:K x y < 0) (h2:K y z < 0):K x z < 0:=by
 refine Decidable.byContradiction fun hn=>?_
 exact hK.ord.negtr z x y hn (hK.ord.asym _ _ h1) h2
omit [DecidableEq α] in
theorem j8 {a b:List α} (hK:LinK K) (ha:cf K a) (hb:cf K b) (h:∀ x,x ∈ a ↔ x ∈ b):a=b:=by
 classical
 have hp:a.Perm b:=(List.perm_ext_iff_of_nodup (ha.nodup hK) (hb.nodup hK)).2 h
 exact List.Perm.eq_of_pairwise (fun x y _ _ h1 h2=>absurd h2 (hK.ord.asym _ _ h1)) ha hb hp
omit [DecidableEq α] in
theorem qM {l:List α} {v x:α}:x ∈ oQ K l v ↔ x ∈ l ∨ x=v:=by
 induction l with
 | nil=>simp [oQ]
 | cons a l ih =>
  unfold oQ
  split
  ·simp only [List.mem_cons]
   exact ⟨fun h=>h.elim .inr .inl,fun h=>h.elim .inr .inl⟩
  ·rw [List.mem_cons,ih,List.mem_cons,or_assoc]
omit [DecidableEq α] in
theorem ux {l:List α} {v:α} (hK:LinK K) (h:cf K l) (hv:v ∉ l):cf K (oQ K l v):=by
 induction l with
 | nil=>exact List.pairwise_singleton _ _
 | cons a l ih =>
  unfold cf at h
  rw [List.pairwise_cons] at h
  unfold oQ
  split
  ·rename_i hlt
   exact List.pairwise_cons.2 ⟨fun y hy=>by
    rcases List.mem_cons.1 hy with rfl | hy
    ·exact hlt
    ·exact hK.trans hlt (h.1 y hy),List.pairwise_cons.2 h⟩
  ·rename_i hlt
   refine List.pairwise_cons.2 ⟨fun y hy=>?_,ih h.2 fun hm=>hv (List.mem_cons_of_mem _ hm)⟩
   rcases qM.1 hy with hy | rfl
   ·exact h.1 y hy
   ·rcases hK.tri y a with k | k | k
    ·exact absurd k hlt
    ·exact absurd (k ▸ List.mem_cons_self) hv
    ·exact k
omit [DecidableEq α] in
theorem u6 {l:List α} {v:α}:(oQ K l v).length=l.length + 1:=by
 induction l with
 | nil=>rfl
 | cons a l ih=>unfold oQ; split <;> simp [ih]
theorem vS {acc:List α} {v x:α}:x ∈ nq K acc v ↔ x ∈ acc ∨ x=v:=by
 unfold nq
 split
 ·rename_i h
  exact ⟨.inl,fun h2=>h2.elim id (fun e=>e ▸ h)⟩
 ·exact qM
theorem wj {acc:List α} {v:α} (hK:LinK K) (h:cf K acc):cf K (nq K acc v):=by
 unfold nq
 split
 ·exact h
 ·rename_i hn
  exact ux hK h hn
theorem uu {acc:List α} {v:α}:(nq K acc v).length ≤ acc.length + 1:=by
 unfold nq
 split
 ·omega
 ·rw [u6]; exact Nat.le_refl _
theorem qp:∀ {l acc:List α} {x:α},x ∈ nu K acc l ↔ x ∈ acc ∨ x ∈ l
 | [],acc,x=>by simp [nu]
 | v :: l,acc,x=>by
  rw [show nu K acc (v :: l)=nu K (nq K acc v) l from rfl,qp,vS,List.mem_cons,or_assoc]
theorem qw (hK:LinK K):∀ {l acc:List α},cf K acc→cf K (nu K acc l)
 | [],_,h=>h
 | v :: l,acc,h=>qw hK (l:=l) (wj hK (v:=v) h)
theorem qf:∀ {l acc:List α},(nu K acc l).length ≤ acc.length + l.length
 | [],acc=>by simp [nu]
 | v :: l,acc=>by
  rw [show nu K acc (v :: l)=nu K (nq K acc v) l from rfl]
  have:=qf (l:=l) (acc:=nq K acc v)
  have:=uu (K:=K) (acc:=acc) (v:=v)
  rw [List.length_cons]; omega
theorem go (hK:LinK K) (l:List α):cf K (dY K l):=qw hK List.Pairwise.nil
theorem ef {l:List α} {x:α}:x ∈ dY K l ↔ x ∈ l:=by
 unfold dY; rw [qp]; simp
theorem gz {l:List α}:(dY K l).length ≤ l.length:=by
 have:=qf (K:=K) (l:=l) (acc:=[])
 unfold dY
 rw [List.length_nil] at this
 omega
theorem uT {l:List α}:dY K l=[] ↔ l=[]:=by
 constructor
 ·intro h
  cases l with
  | nil=>rfl
  | cons a l =>
   have:a ∈ dY K (a :: l):=ef.2 (List.mem_cons_self ..)
   rw [h] at this
   exact absurd this (by simp)
 ·rintro rfl; rfl
end
section
variable {α:Type} [Inhabited α] [DecidableEq α]
def bq (l:List α):Nat→Nat
 | 0=>0
 | k + 1=>bq l k + if k=0 ∨ l.getD k default ≠ l.getD (k - 1) default then 1 else 0
theorem my (l:List α) (k:Nat):bq l k ≤ k:=by
 induction k with
 | zero=>exact Nat.le_refl _
 | succ k ih=>unfold bq; split <;> omega
theorem dg {l:List α} {k:Nat} (hk:k ≠ 0) (h:l.getD k default=l.getD (k - 1) default):bq l (k + 1)=bq l k:=by
 rw [bq,if_neg (by rintro (h' | h'); exact hk h'; exact h' h)]; rfl
theorem fR {l:List α} {k:Nat} (h:l.getD k default ≠ l.getD (k - 1) default):bq l (k + 1)=bq l k + 1:=by
 rw [bq,if_pos (.inr h)]
def cL (l:List α):Nat→List α
 | 0=>[]
 | k + 1=>cL l k ++ if k=0 ∨ l.getD k default ≠ l.getD (k - 1) default then [l.getD k default] else []
theorem jV (l:List α) (k:Nat):(cL l k).length=bq l k:=by
 induction k with
 | zero=>rfl
 | succ k ih=>rw [cL,bq,List.length_append,ih]; split <;> rfl
theorem fW {l:List α} {k:Nat} (hk:k ≠ 0) (h:l.getD k default=l.getD (k - 1) default):cL l (k + 1)=cL l k:=by
 rw [cL,if_neg (by rintro (h' | h'); exact hk h'; exact h' h),List.append_nil]
theorem f7 {l:List α} {k:Nat} (h:l.getD k default ≠ l.getD (k - 1) default):cL l (k + 1)=cL l k ++ [l.getD k default]:=by
 rw [cL,if_pos (.inr h)]
theorem jY {l:List α}:∀ {k:Nat},k ≤ l.length→∀ x,x ∈ cL l k ↔ ∃ j,j < k∧l.getD j default=x
 | 0,_,x=>by simp [cL]
 | k + 1,hk,x=>by
  have ih:=jY (l:=l) (k:=k) (by omega) x
  rw [cL,List.mem_append,ih]
  constructor
  ·rintro (⟨j,h1,h2⟩ | h)
   ·exact ⟨j,by omega,h2⟩
   ·split at h
    ·rw [List.mem_singleton] at h; exact ⟨k,by omega,h.symm⟩
    ·simp at h
  ·rintro ⟨j,h1,h2⟩
   by_cases e:j=k
   ·subst e
    by_cases c:j=0 ∨ l.getD j default ≠ l.getD (j - 1) default
    ·right; rw [if_pos c,List.mem_singleton]; exact h2.symm
    ·left
     have c1:j ≠ 0:=fun h=>c (.inl h)
     have c2:l.getD j default=l.getD (j - 1) default:=Decidable.of_not_not fun h=>c (.inr h)
     exact ⟨j - 1,by omega,by rw [← c2]; exact h2⟩
   ·left; exact ⟨j,by omega,h2⟩
theorem nS {K:α→α→Int} (hK:LinK K) {l:List α} (hs:∀ i j,i < j→j < l.length→¬ K (l.getD j default) (l.getD i default) < 0):∀ {k:Nat},k ≤ l.length→cf K (cL l k)
 | 0,_=>List.Pairwise.nil
 | k + 1,hk=>by
  have ih:=nS hK hs (k:=k) (by omega)
  unfold cf
  rw [cL,List.pairwise_append]
  refine ⟨ih,by split <;> simp,fun x hx y hy=>?_⟩
  split at hy
  ·rename_i c
   rw [List.mem_singleton] at hy
   subst hy
   obtain ⟨j,h1,rfl⟩:=(jY (by omega) x).1 hx
   rcases c with c | c
   ·omega
   ·refine Decidable.byContradiction fun hn=>?_
    have a2:=hs (k - 1) k (by omega) (by omega)
    have hne:K (l.getD (k - 1) default) (l.getD k default) < 0:=Decidable.byContradiction fun h3=>c (hK.eq _ _ a2 h3)
    by_cases e:j=k - 1
    ·rw [e] at hn; exact hn hne
    ·have a1:=hs j (k - 1) (by omega) (by omega)
     exact hK.ord.negtr _ _ _ hn a1 hne
  ·simp at hy
omit [DecidableEq α] in
theorem vT {M:List α} {x:α}:(∃ j,j < M.length∧M.getD j default=x) ↔ x ∈ M:=by
 constructor
 ·rintro ⟨j,h1,rfl⟩; simp [List.getD,h1]
 ·intro h
  obtain ⟨j,hj,rfl⟩:=List.getElem_of_mem h
  exact ⟨j,hj,by simp [List.getD,hj]⟩
theorem j9 {K:α→α→Int} (hK:LinK K) {l M:List α} (hp:M.Perm l) (hs:aM K 0 M.length M):cL M M.length=dY K l:=by
 refine j8 hK (nS hK (fun i j h1 h2=>hs i j (Nat.zero_le _) h1 h2) (Nat.le_refl _)) (go hK l) fun x=>?_
 rw [jY (Nat.le_refl _),vT,hp.mem_iff,ef]
end
end Go.Proofs.YtpfkjcjgdilkkaaGreat
namespace Go.Proofs.YtpfkjcjgdilkkaaGreat
open Go Go.Abs
abbrev Shn {α:Type} (l:List α):Prop:=l.length ≤ 17592186044416
structure Vtx where
 color:Int
 label:Int
 deriving Inhabited,DecidableEq
abbrev Spx:=List Vtx
def ke (v:Vtx):List AV:=[.int .i64 v.color,.int .i64 v.label]
abbrev bf (v:Vtx):AV:=.agg [.int .i64 v.color,.int .i64 v.label]
def aq (l:Spx):AV:=eV 2 bf l
def aC (l:List Spx):AV:=eV 1 aq l
def cX (l:Spx):List AV:=l.flatMap ke
theorem bj (v:Vtx):Dat (bf v):=Dat.agg (DatL.cons .int (DatL.cons .int DatL.nil))
theorem aw (l:Spx):Dat (aq l):=lD (fun x _ c hc=>by
 simp only [bf,AV.cells,List.mem_cons,List.not_mem_nil,or_false] at hc
 rcases hc with rfl | rfl <;> exact .int)
theorem bh (l:List Spx):Dat (aC l):=lD (fun x _ c hc=>by
 simp only [aq,eV,AV.cells,List.mem_singleton] at hc; subst hc; exact aw x)
instance datI_encX {v:Vtx}:DatI (bf v):=⟨bj v⟩
instance datI_encXs {l:Spx}:DatI (aq l):=⟨aw l⟩
instance datI_encXss {l:List Spx}:DatI (aC l):=⟨bh l⟩
theorem aQ {l:Spx}:(aq l).cells=[aq l]:=rfl
theorem a9 {l:Spx}:(aq l).one=true:=rfl
theorem av {l:List Spx}:(aC l).cells=[aC l]:=rfl
theorem aB {l:List Spx}:(aC l).one=true:=rfl
theorem rN {l:Spx} {k:IntKind} {n:Int}:dR 2 (aq l) (.int k n)=if 0 ≤ n∧n < l.length then some (.iptr [.int .i64 (l.getD n.toNat default).color,.int .i64 (l.getD n.toNat default).label] 0) else none:=jv
theorem ak {l:Spx}:cr (aq l)=some (.int .i64 l.length):=iC
theorem qV {l:List Spx} {k:IntKind} {n:Int}:dR 1 (aC l) (.int k n)=if 0 ≤ n∧n < l.length then some (.iptr [aq (l.getD n.toNat default)] 0) else none:=jv
theorem ao {l:List Spx}:cr (aC l)=some (.int .i64 l.length):=iC
theorem ix2 {l:Spx} {k:Nat} (h:k < l.length):dR 2 (aq l) (.int .i64 (k:Int))=some (.iptr [.int .i64 (l.getD k default).color,.int .i64 (l.getD k default).label] 0):=by
 rw [rN,if_pos ⟨by omega,by omega⟩,Int.toNat_natCast]
theorem eT {l:List Spx} {k:Nat} (h:k < l.length):dR 1 (aC l) (.int .i64 (k:Int))=some (.iptr [aq (l.getD k default)] 0):=by
 rw [qV,if_pos ⟨by omega,by omega⟩,Int.toNat_natCast]
theorem dZ (l:Spx):(cX l).length=l.length * 2:=by
 induction l with
 | nil=>rfl
 | cons a l ih=>rw [cX,List.flatMap_cons,List.length_append,List.length_cons,show (l.flatMap ke).length=l.length * 2 from ih]; show 2 + _=_; omega
theorem gR (l m:Spx):cX (l ++ m)=cX l ++ cX m:=List.flatMap_append
theorem rS (l:Spx):(l.map bf).flatMap AV.cells=cX l:=by
 induction l with
 | nil=>rfl
 | cons a l ih=>rw [List.map_cons,List.flatMap_cons,ih]; rfl
theorem rW {H:Hp} {s:AV} {l:Spx} (h:Row H 2 s (cX l)):Snap H s (aq l):=by
 refine Row.snap (elems:=l.map bf) (by rw [rS]; exact h) (fun y hy=>?_) (by omega) (fun y hy c hx=>?_)
 ·obtain ⟨n,_,rfl⟩:=List.mem_map.1 hy; rfl
 ·obtain ⟨n,_,rfl⟩:=List.mem_map.1 hy
  simp only [bf,AV.cells,List.mem_cons,List.not_mem_nil,or_false] at hx
  rcases hx with rfl | rfl <;> exact .int
theorem kY {H:Hp} {s:AV} {l:List Spx} (h:Row H 1 s (l.map aq)):Snap H s (aC l):=h.snapL' (fun _=>rfl) (fun x _=>aw x)
theorem uP {H:Hp} {l:Spx}:di 2 H (aq l)=some (l.length,cX l):=by
 unfold aq eV; rw [rX,rS]; simp
theorem yq {H:Hp} {l:List Spx}:di 1 H (aC l)=some (l.length,l.map aq):=s6 (fun _=>rfl)
theorem ot (l:Spx):AV.ones (cX l)=true:=by
 unfold AV.ones
 rw [List.all_eq_true]
 intro x hx
 obtain ⟨v,_,hv⟩:=List.mem_flatMap.1 hx
 simp only [ke,List.mem_cons,List.not_mem_nil,or_false] at hv
 rcases hv with rfl | rfl <;> rfl
def bl (v w:Vtx):Int:=if v.color < w.color then -1 else if v.color > w.color then 1 else if v.label < w.label then -1 else if v.label > w.label then 1 else 0
def bB:Spx→Spx→Int
 | [],[]=>0
 | [],_ :: _=>-1
 | _ :: _,[]=>1
 | a :: l,b :: m=>if bl a b ≠ 0 then bl a b else bB l m
theorem iX {v w:Vtx}:bl v w < 0 ↔ v.color < w.color ∨ (v.color=w.color∧v.label < w.label):=by
 unfold bl; (repeat' split) <;> constructor <;> intro h <;> omega
theorem oe {v w:Vtx}:v=w ↔ v.color=w.color∧v.label=w.label:=by
 obtain ⟨a,b⟩:=v
 obtain ⟨c,d⟩:=w
 simp
theorem fG {v w:Vtx}:bl v w=0 ↔ v=w:=by
 rw [oe]; unfold bl; (repeat' split) <;> constructor <;> intro h <;> omega
theorem nH (v w:Vtx):bl w v=- bl v w:=by
 unfold bl; (repeat' split) <;> omega
theorem iO:LinK bl where
 ord:={ irr:=fun x=>by rw [iX]; omega,asym:=fun x y h=>by rw [iX] at *; omega,negtr:=fun x y z h1 h2=>by rw [iX] at *; omega }
 eq:=fun x y h1 h2=>by rw [iX] at *; rw [oe]; omega
theorem nI:∀ l:Spx,bB l l=0
 | []=>rfl
 | a :: l=>by rw [bB,fG.2 rfl,if_neg (by simp)]; exact nI l
theorem sG:∀ {l m:Spx},bB l m=0→l=m
 | [],[],_=>rfl
 | [],_ :: _,h=>by simp [bB] at h
 | _ :: _,[],h=>by simp [bB] at h
 | a :: l,b :: m,h=>by
  rw [bB] at h
  by_cases e:bl a b=0
  ·rw [if_neg (fun h=>h e)] at h
   rw [fG.1 e,sG h]
  ·rw [if_pos e] at h; exact absurd h e
theorem jI:∀ l m:Spx,bB m l=- bB l m
 | [],[]=>rfl
 | [],_ :: _=>rfl
 | _ :: _,[]=>rfl
 | a :: l,b :: m=>by
  rw [bB,bB,nH a b]
  by_cases e:bl a b=0
  ·rw [e,if_neg (by simp),if_neg (by simp)]; exact jI l m
  ·rw [if_pos (by omega),if_pos e]
theorem lH:∀ (x y z:Spx),¬ bB y x < 0→¬ bB z y < 0→¬ bB z x < 0
 | [],_,[],_,_=>by simp [bB]
 | [],_,_ :: _,_,_=>by simp [bB]
 | _ :: _,[],_,h,_=>by simp [bB] at h
 | _ :: _,_ :: _,[],_,h=>by simp [bB] at h
 | a :: x,b :: y,c :: z,h1,h2=>by
  rw [bB] at h1 h2 ⊢
  have n:=iO.ord.negtr a b c
  by_cases e1:bl b a=0
  ·have e1':=fG.1 e1
   subst e1'
   rw [if_neg (fun h=>h e1)] at h1
   by_cases e2:bl c b=0
   ·rw [if_neg (fun h=>h e2)] at h2 ⊢
    exact lH x y z h1 h2
   ·rw [if_pos e2] at h2 ⊢; exact h2
  ·rw [if_pos e1] at h1
   by_cases e2:bl c b=0
   ·have e2':=fG.1 e2
    subst e2'
    rw [if_pos e1]; exact h1
   ·rw [if_pos e2] at h2
    have h3:=n h1 h2
    by_cases e3:bl c a=0
    ·exfalso
     have e3':=fG.1 e3
     subst e3'
     have:=nH b c
     omega
    ·rw [if_pos e3]; exact h3
theorem qG:LinK bB where
 ord:={ irr:=fun x=>by rw [nI]; omega,asym:=fun x y h=>by rw [jI]; omega,negtr:=lH }
 eq:=fun x y h1 h2=>by
  have:=jI x y
  exact sG (by omega)
theorem nU {l m:Spx} {k:Nat} (h1:k < l.length) (h2:k < m.length):bB (l.drop k) (m.drop k)=if bl (l.getD k default) (m.getD k default) ≠ 0 then bl (l.getD k default) (m.getD k default) else bB (l.drop (k + 1)) (m.drop (k + 1)):=by
 rw [eN h1,eN h2,bB]
theorem mI {l m:Spx} {k:Nat} (h:l.length ≤ k ∨ m.length ≤ k) (hk:k ≤ l.length∧k ≤ m.length):bB (l.drop k) (m.drop k)=if l.length < m.length then -1 else if m.length < l.length then 1 else 0:=by
 by_cases e1:l.length=k
 ·rw [List.drop_eq_nil_of_le (show l.length ≤ k by omega)]
  by_cases e2:m.length=k
  ·rw [List.drop_eq_nil_of_le (by omega),if_neg (by omega),if_neg (by omega)]; rfl
  ·rw [eN (l:=m) (k:=k) (by omega),if_pos (by omega)]; rfl
 ·have e2:m.length=k:=by omega
  rw [eN (l:=l) (k:=k) (by omega),List.drop_eq_nil_of_le (show m.length ≤ k by omega),if_neg (by omega),if_pos (by omega)]; rfl
def bW (f:Nat→Int):Nat→Int
 | 0=>0
 | n + 1=>if bW f n ≠ 0 then bW f n else f n
theorem bZ {f:Nat→Int}:∀ {n:Nat},(∀ i,i < n→f i=0)→bW f n=0
 | 0,_=>rfl
 | n + 1,h=>by
  have:=bZ (f:=f) (n:=n) (fun i hi=>h i (by omega))
  rw [bW,this,if_neg (by simp)]; exact h n (by omega)
theorem bT {f:Nat→Int}:∀ {n k:Nat},k < n→(∀ i,i < k→f i=0)→f k ≠ 0→bW f n=f k
 | 0,k,h,_,_=>absurd h (by omega)
 | n + 1,k,h,h0,hk=>by
  rw [bW]
  by_cases e:k=n
  ·subst e
   rw [bZ h0,if_neg (by simp)]
  ·rw [bT (n:=n) (by omega) h0 hk,if_pos hk]
theorem eP {f:Nat→Int}:∀ {n:Nat},bW f n=0→∀ i,i < n→f i=0
 | 0,_,i,h=>absurd h (by omega)
 | n + 1,h,i,hi=>by
  rw [bW] at h
  by_cases e:bW f n=0
  ·rw [e,if_neg (by simp)] at h
   by_cases ei:i=n
   ·subst ei; exact h
   ·exact eP e i (by omega)
  ·rw [if_pos e] at h; exact absurd h e
def bv (v:Vtx):Bool:=decide (0 ≤ v.color) && decide (v.color < 8) && (decide (0 ≤ v.label) && decide (v.label ≤ 1048576))
def kE (l:Spx) (k:Nat):Int:=if bv (l.getD k default)=false then 2 else if 0 < k∧0 ≤ bl (l.getD (k - 1) default) (l.getD k default) then 14 else 0
def bo (l:Spx):Int:=if l.length=0 then 16 else if 8 < l.length then 5 else bW (kE l) l.length
theorem bH {l:Spx} (h:bo l=0):1 ≤ l.length∧l.length ≤ 8∧cf bl l∧∀ v ∈ l,bv v=true:=by
 unfold bo at h
 split at h
 ·exact absurd h (by decide)
 split at h
 ·exact absurd h (by decide)
 rename_i h1 h2
 have hz:=eP h
 have h3:∀ k,k < l.length→bv (l.getD k default)=true∧(0 < k→bl (l.getD (k - 1) default) (l.getD k default) < 0):=fun k hk=>by
  have:=hz k hk
  unfold kE at this
  split at this
  ·exact absurd this (by decide)
  rename_i g1
  split at this
  ·exact absurd this (by decide)
  rename_i g2
  exact ⟨by simpa using g1,fun h0=>by omega⟩
 refine ⟨by omega,by omega,?_,fun v hv=>?_⟩
 ·have step:∀ j i,i < j→j < l.length→bl (l.getD i default) (l.getD j default) < 0:=by
    intro j
    induction j with
    | zero=>intro i h; omega
    | succ j ih =>
     intro i hi hj
     have hs:=(h3 (j + 1) hj).2 (by omega)
     rw [Nat.add_sub_cancel] at hs
     by_cases e:i=j
     ·subst e; exact hs
     ·exact iO.trans (ih i (by omega) (by omega)) hs
  unfold cf
  rw [List.pairwise_iff_getElem]
  intro i j hi hj hij
  have:=step j i hij hj
  simpa [List.getD,hi,hj] using this
 ·obtain ⟨i,hi,rfl⟩:=List.getElem_of_mem hv
  have:=(h3 i hi).1
  simpa [List.getD,hi] using this
theorem dh {α:Type} [Inhabited α] {K:α→α→Int} {l:List α} (h:cf K l) {i j:Nat} (hij:i < j) (hj:j < l.length):K (l.getD i default) (l.getD j default) < 0:=by
 have:=List.pairwise_iff_getElem.1 h i j (by omega) hj hij
 simpa [List.getD,hj,show i < l.length by omega] using this
theorem pW {l:Spx} (h1:1 ≤ l.length∧l.length ≤ 8) (h2:cf bl l) (h3:∀ v ∈ l,bv v=true):bo l=0:=by
 unfold bo
 rw [if_neg (by omega),if_neg (by omega)]
 refine bZ fun k hk=>?_
 unfold kE
 rw [h3 _ (aA hk),if_neg (by simp),if_neg]
 rintro ⟨h0,h4⟩
 have:=dh h2 (i:=k - 1) (j:=k) (by omega) hk
 omega
end Go.Proofs.YtpfkjcjgdilkkaaGreat
namespace Go.Proofs.YtpfkjcjgdilkkaaGreat
open Go Go.Abs
open Nat (reduceEqDiff reduceAdd reduceLeDiff)
def c3i (a b:Int):Int:=if a < b then -1 else if a > b then 1 else 0
theorem so (v w:Vtx):(if c3i v.color w.color ≠ 0 then c3i v.color w.color else c3i v.label w.label)=bl v w:=by
 unfold c3i bl
 by_cases h1:v.color < w.color
 ·rw [if_pos h1,if_pos h1,if_pos (by simp)]
 ·rw [if_neg h1,if_neg h1]
  by_cases h2:v.color > w.color
  ·rw [if_pos h2,if_pos h2,if_pos (by simp)]
  ·rw [if_neg h2,if_neg h2,if_neg (by simp)]
attribute [local irreducible] aD ah aX aP aH aK az aL aR be Go.Abs.Fn aO Go.Abs.Pure ar aE Yl
theorem pX (n:Int):Pure Tryz.prog 111 [.int .i64 n] (.bool false):=by
 refine Pure.of_c2 follows ye (Nat.le_of_ble_eq_true rfl) ?_
 simp only [yh,cO,cG,cN,cM,cD,cF,cB,ax,aN]
 (have zz:=and_self; repeat' (first|refine zW ?_|apply a_n|refine zO ?_|refine vZ ?_|refine af rfl ?_|refine r1Z ?_|fail)) <;> (try clear zz)
 exact bz (decide_eq_false (fun h=>h rfl))
theorem oB (a b:Int):Pure Tryz.prog 102 [.int .i64 a,.int .i64 b] (.int .i64 (c3i a b)):=by
 refine Pure.of_c2 follows xY (Nat.le_of_ble_eq_true rfl) ?_
 simp only [zf,cO,cG,cN,cM,cD,cF,cB,ax,aN]
 have h1:=pX a
 have h2:=pX b
 unfold c3i
 (have zz:=and_self; repeat' (first|refine zW ?_|apply a_n|apply a_r|refine zO ?_|refine vZ ?_|refine cZ ?_ (hp:=by first | exact h1 | exact h2)|refine cFZ ?_|(refine zGZ ?_ ?_ <;> (intro _hg; try (exfalso; omega)))|refine af rfl ?_|refine r1Z ?_|fail)) <;> (try clear zz)
 all_goals (refine bP ?_)
 ·rw [if_pos (by omega)]
 ·rw [if_neg (by omega),if_pos (by omega)]
 ·rw [if_neg (by omega),if_neg (by omega)]
theorem xQ (a b:Int):Pure Tryz.prog 101 [cT [a,b]] (.int .i64 (if a ≠ 0 then a else b)):=by
 refine Pure.of_c2 follows xM (Nat.le_of_ble_eq_true rfl) ?_
 simp only [y5,cO,cG,cN,cM,cD,cF,cB,ax,aN]
 (have zz:=and_self; repeat' (first|refine zW ?_|apply a_n|refine zO ?_|refine vZ ?_|fail)) <;> (try clear zz)
 refine n3 (fun k=>[(3,.int .i64 0),(6,cT [a,b]),(7,.int .i64 2),(8,.int .i64 k)]) 2 (fun k=>[a,b].getD k default=0) (by (iterate 4 refine And.intro rfl ?_); trivial) ?_
 intro k hk hz
 rcases (by omega:k=0 ∨ k=1 ∨ k=2) with rfl | rfl | rfl
 ·have e:[a,b].getD 0 default=a:=rfl
  have ix:dR 1 (cT [a,b]) (.int .i64 ((0:Nat):Int))=some (.iptr [.int .i64 a] 0):=rfl
  by_cases h0:a=0
  ·have z:decide (a ≠ 0)=false:=decide_eq_false (fun h=>h h0)
   (have zz:=aI @ix @z; repeat' (first|refine zW ?_|apply a_n|refine zO ?_|refine vZ ?_|refine cFZ ?_|(refine zGZ ?_ ?_ <;> (intro _hg; try (exfalso; omega)))|fail)) <;> (try clear zz)
   exact ⟨by omega,h0,by (iterate 4 refine And.intro rfl ?_); trivial,rfl,rfl⟩
  ·have z:decide (a ≠ 0)=true:=decide_eq_true h0
   (have zz:=aI @ix @z; repeat' (first|refine zW ?_|apply a_n|apply a_r|refine zO ?_|refine vZ ?_|refine cTZ ?_|(refine zGZ ?_ ?_ <;> (intro _hg; try (exfalso; omega)))|refine af rfl ?_|refine r1Z ?_|fail)) <;> (try clear zz)
   rw [if_pos h0]; exact .int _ _
 ·have h0:a=0:=hz 0 (by omega)
  have ix:dR 1 (cT [a,b]) (.int .i64 ((1:Nat):Int))=some (.iptr [.int .i64 b] 0):=rfl
  rw [if_neg (fun h=>h h0)]
  by_cases h1:b=0
  ·have z:decide (b ≠ 0)=false:=decide_eq_false (fun h=>h h1)
   (have zz:=aI @ix @z; repeat' (first|refine zW ?_|apply a_n|refine zO ?_|refine vZ ?_|refine cFZ ?_|(refine zGZ ?_ ?_ <;> (intro _hg; try (exfalso; omega)))|fail)) <;> (try clear zz)
   exact ⟨by omega,h1,by (iterate 4 refine And.intro rfl ?_); trivial,rfl,rfl⟩
  ·have z:decide (b ≠ 0)=true:=decide_eq_true h1
   (have zz:=aI @ix @z; repeat' (first|refine zW ?_|apply a_n|apply a_r|refine zO ?_|refine vZ ?_|refine cTZ ?_|(refine zGZ ?_ ?_ <;> (intro _hg; try (exfalso; omega)))|refine af rfl ?_|refine r1Z ?_|fail)) <;> (try clear zz)
   exact .int _ _
 ·have h0:a=0:=hz 0 (by omega)
  have h1:b=0:=hz 1 (by omega)
  rw [if_neg (fun h=>h h0),h1]
  (have zz:=and_self; repeat' (first|refine zW ?_|apply a_n|apply a_x|refine zO ?_|refine vZ ?_|(refine zGZ ?_ ?_ <;> (intro _hg; try (exfalso; omega)))|refine af rfl ?_|refine r1Z ?_|fail)) <;> (try clear zz)
  exact .int _ _
theorem r9 (v w:Vtx):Pure Tryz.prog 68 [bf v,bf w] (.int .i64 (bl v w)):=by
 refine Pure.of_c2 follows Az (Nat.le_of_ble_eq_true rfl) ?_
 simp only [b68,cO,cG,cN,cM,cD,cF,cB,ax,aN]
 have h1:=oB v.color w.color
 have h2:=oB v.label w.label
 have h3:=xQ (c3i v.color w.color) (c3i v.label w.label)
 rw [so] at h3
 (have zz:=and_self; repeat' (first|refine zW ?_|refine zM ?_|apply a_n|refine zO ?_|refine vZ ?_|refine cZ ?_ (hp:=by first | exact h1 | exact h2)|refine bxZ ?_|refine blZ ?_|fail)) <;> (try clear zz)
 refine bN ev0 (by ((try simp only [cz,ZA,reduceEqDiff,↓reduceIte,reduceAdd,reduceLeDiff]); (try with_reducible rfl)); rfl) h3 (aa (ap (nk ai rfl rfl) ab) rfl) ?_
 (have zz:=and_self; repeat' (first|apply a_n|refine zO ?_|refine vZ ?_|refine af rfl ?_|refine r1Z ?_|fail)) <;> (try clear zz)
 exact .int _ _
theorem nc (v w:Vtx):Pure Tryz.prog 70 [bf v,bf w] (.int .i64 (bl v w)):=by
 refine Pure.of_c2 follows AS (Nat.le_of_ble_eq_true rfl) ?_
 simp only [b70,cO,cG,cN,cM,cD,cF,cB,ax,aN]
 have h1:=oB v.color w.color
 have h2:=oB v.label w.label
 have h3:=xQ (c3i v.color w.color) (c3i v.label w.label)
 rw [so] at h3
 (have zz:=and_self; repeat' (first|refine zW ?_|refine zM ?_|apply a_n|refine zO ?_|refine vZ ?_|refine cZ ?_ (hp:=by first | exact h1 | exact h2)|refine bxZ ?_|refine blZ ?_|fail)) <;> (try clear zz)
 refine bN ev0 (by ((try simp only [cz,ZA,reduceEqDiff,↓reduceIte,reduceAdd,reduceLeDiff]); (try with_reducible rfl)); rfl) h3 (aa (ap (nk ai rfl rfl) ab) rfl) ?_
 (have zz:=and_self; repeat' (first|apply a_n|refine zO ?_|refine vZ ?_|refine af rfl ?_|refine r1Z ?_|fail)) <;> (try clear zz)
 exact .int _ _
theorem mX (v w:Vtx):Pure Tryz.prog 96 [bf v,bf w] (.int .i64 (bl v w)):=by
 refine Pure.of_c2 follows Bp (Nat.le_of_ble_eq_true rfl) ?_
 simp only [b96,cO,cG,cN,cM,cD,cF,cB,ax,aN]
 unfold bl
 (have zz:=and_self; repeat' (first|refine zW ?_|apply a_n|apply a_r|refine zO ?_|refine vZ ?_|refine bxZ ?_|(refine zGZ ?_ ?_ <;> (intro _hg; try (exfalso; omega)))|refine af rfl ?_|refine r1Z ?_|fail)) <;> (try clear zz)
 all_goals (refine bP ?_; (repeat' split) <;> omega)
theorem rB (v:Vtx):Pure Tryz.prog 67 [bf v] (.bool (bv v)):=by
 refine Pure.of_c2 follows AK (Nat.le_of_ble_eq_true rfl) ?_
 simp only [b67,cO,cG,cN,cM,cD,cF,cB,ax,aN]
 unfold bv
 (have zz:=and_self; repeat' (first|refine zW ?_|apply a_n|refine zO ?_|refine vZ ?_|refine bxZ ?_|refine gTZ ?_|refine gFZ ?_|(refine zGZ ?_ ?_ <;> (intro _hg; try (exfalso; omega)))|refine af rfl ?_|refine r1Z ?_|fail)) <;> (try clear zz)
 all_goals (refine bz ?_; rw [Bool.eq_iff_iff]; simp only [Bool.and_eq_true,decide_eq_true_iff,Bool.false_eq_true,false_iff]; omega)
theorem qL (v:Vtx):Pure Tryz.prog 83 [bf v] (.bool (bv v)):=by
 refine Pure.of_c2 follows Ay (Nat.le_of_ble_eq_true rfl) ?_
 simp only [b83,cO,cG,cN,cM,cD,cF,cB,ax,aN]
 unfold bv
 (have zz:=and_self; repeat' (first|refine zW ?_|apply a_n|refine zO ?_|refine vZ ?_|refine bxZ ?_|refine gTZ ?_|refine gFZ ?_|(refine zGZ ?_ ?_ <;> (intro _hg; try (exfalso; omega)))|refine af rfl ?_|refine r1Z ?_|fail)) <;> (try clear zz)
 all_goals (refine bz ?_; rw [Bool.eq_iff_iff]; simp only [Bool.and_eq_true,decide_eq_true_iff,Bool.false_eq_true,false_iff]; omega)
theorem ug (v:Vtx):Pure Tryz.prog 95 [bf v] (.bool (bv v)):=by
 refine Pure.of_c2 follows BA (Nat.le_of_ble_eq_true rfl) ?_
 simp only [b95,cO,cG,cN,cM,cD,cF,cB,ax,aN]
 unfold bv
 (have zz:=and_self; repeat' (first|refine zW ?_|apply a_n|refine zO ?_|refine vZ ?_|refine bxZ ?_|refine gTZ ?_|refine gFZ ?_|(refine zGZ ?_ ?_ <;> (intro _hg; try (exfalso; omega)))|refine af rfl ?_|refine r1Z ?_|fail)) <;> (try clear zz)
 all_goals (refine bz ?_; rw [Bool.eq_iff_iff]; simp only [Bool.and_eq_true,decide_eq_true_iff,Bool.false_eq_true,false_iff]; omega)
end Go.Proofs.YtpfkjcjgdilkkaaGreat
namespace Go.Proofs.YtpfkjcjgdilkkaaGreat
open Go Go.Abs
attribute [local irreducible] aD ah aX aP aH aK az aL aR be Go.Abs.Fn aO Go.Abs.Pure ar aE Yl
theorem qz (l m:Spx) (hl:Shn l) (hm:Shn m):Pure Tryz.prog 87 [aq l,aq m,.func 68 []] (.int .i64 (bB l m)):=by
 refine Pure.of_c2 follows Ar (Nat.le_of_ble_eq_true rfl) ?_
 simp only [b87,cO,cG,cN,cM,cD,cF,cB,ax,aN]
 have hl':l.length ≤ 17592186044416:=hl
 have hm':m.length ≤ 17592186044416:=hm
 (have zz:=@ak; repeat' (first|refine zW ?_|apply a_n|refine zO ?_|refine vZ ?_|fail)) <;> (try clear zz)
 refine aS (X:=Nat) (fun k=>[(0,aq l),(1,aq m),(2,.func 68 []),(11,aq l),(12,.int .i64 l.length),(13,.int .i64 k)]) (fun k H nx=>k ≤ l.length∧k ≤ m.length∧bB l m=bB (l.drop k) (m.drop k)) (fun k=>l.length - k) 0 ⟨Nat.zero_le _,Nat.zero_le _,rfl⟩ ag0 ?_
 rintro k H nx ⟨h1,h2,h3⟩
 by_cases hk:k < l.length
 rotate_left
 ·rw [h3,mI (by omega) ⟨h1,h2⟩]
  (have zz:=@ak; repeat' (first|refine zW ?_|apply a_n|apply a_x|apply a_r|refine zO ?_|refine vY ?_|(refine zGY ?_ ?_ <;> (intro _hg; try (exfalso; omega)))|refine af rfl ?_|refine r1Y ?_|fail)) <;> (try clear zz)
  all_goals (refine bP ?_)
  ·rw [if_pos (by omega)]
  ·rw [if_neg (by omega),if_neg (by omega)]
 have ix:=ix2 hk
 by_cases hk2:k < m.length
 rotate_left
 ·rw [h3,mI (by omega) ⟨h1,h2⟩,if_neg (by omega),if_pos (by omega)]
  (have zz:=aI @ak @ix; repeat' (first|refine zW ?_|apply a_n|apply a_r|refine zO ?_|refine vY ?_|refine alY ?_|refine stY ?_|(refine zGY ?_ ?_ <;> (intro _hg; try (exfalso; omega)))|refine af rfl ?_|refine r1Y ?_|fail)) <;> (try clear zz)
  all_goals exact bP rfl
 have iy:=ix2 hk2
 have hc:=r9 (l.getD k default) (m.getD k default)
 have hd:=nU hk hk2
 by_cases he:bl (l.getD k default) (m.getD k default)=0
 ·rw [if_neg (fun h=>h he)] at hd
  rw [he] at hc
  have z:decide ((0:Int) ≠ 0)=false:=rfl
  (have zz:=aI @ak (aI @ix (aI @iy @z)); repeat' (first|refine zW ?_|apply a_n|refine zO ?_|refine vY ?_|refine cY ?_ (hp:=hc) (hs:=by (first | refine aa ?_ rfl | apply ac); (repeat' (first | exact ab | apply ag | apply ae | exact bj _)); first | done | fail)|refine alY ?_|refine stY ?_|refine cFY ?_|(refine zGY ?_ ?_ <;> (intro _hg; try (exfalso; omega)))|fail)) <;> (try clear zz)
  exact ⟨k + 1,by omega,⟨by omega,by omega,h3.trans hd⟩,ag0⟩
 ·rw [if_pos he] at hd
  have z:decide (bl (l.getD k default) (m.getD k default) ≠ 0)=true:=decide_eq_true he
  rw [h3,hd]
  (have zz:=aI @ak (aI @ix (aI @iy @z)); repeat' (first|refine zW ?_|apply a_n|apply a_r|refine zO ?_|refine vY ?_|refine cY ?_ (hp:=hc) (hs:=by (first | refine aa ?_ rfl | apply ac); (repeat' (first | exact ab | apply ag | apply ae | exact bj _)); first | done | fail)|refine alY ?_|refine stY ?_|refine cTY ?_|(refine zGY ?_ ?_ <;> (intro _hg; try (exfalso; omega)))|refine af rfl ?_|refine r1Y ?_|fail)) <;> (try clear zz)
  exact .int _ _
theorem gY (l m:Spx) (hl:Shn l) (hm:Shn m):Pure Tryz.prog 49 [aq l,aq m] (.int .i64 (bB l m)):=by
 refine Pure.of_c2 follows AD (Nat.le_of_ble_eq_true rfl) ?_
 simp only [b49,cO,cG,cN,cM,cD,cF,cB,ax,aN]
 have h:=qz l m hl hm
 (have zz:=and_self; repeat' (first|refine zW ?_|apply a_n|refine zO ?_|refine vZ ?_|refine cZ ?_ (hp:=h) (hs:=by (first | refine aa ?_ rfl | apply ac); (repeat' (first | exact ab | apply ag | apply ae | exact aw _ | exact Dat.func (by simp))); first | done | fail)|refine af rfl ?_|refine r1Z ?_|fail)) <;> (try clear zz)
 exact .int _ _
theorem mV (l m:Spx) (hl:Shn l) (hm:Shn m):Pure Tryz.prog 62 [aq l,aq m] (.int .i64 (bB l m)):=by
 refine Pure.of_c2 follows A8 (Nat.le_of_ble_eq_true rfl) ?_
 simp only [b62,cO,cG,cN,cM,cD,cF,cB,ax,aN]
 have hl':l.length ≤ 17592186044416:=hl
 have hm':m.length ≤ 17592186044416:=hm
 (have zz:=and_self; repeat' (first|refine zW ?_|apply a_n|refine zO ?_|refine vZ ?_|fail)) <;> (try clear zz)
 refine aS (X:=Nat) (fun k=>[(0,aq l),(1,aq m),(5,.int .i64 k)]) (fun k H nx=>k ≤ l.length∧k ≤ m.length∧bB l m=bB (l.drop k) (m.drop k)) (fun k=>l.length - k) 0 ⟨Nat.zero_le _,Nat.zero_le _,rfl⟩ ag0 ?_
 rintro k H nx ⟨h1,h2,h3⟩
 by_cases hk:k < l.length∧k < m.length
 rotate_left
 ·rw [h3,mI (by omega) ⟨h1,h2⟩]
  (have zz:=@ak; repeat' (first|refine zW ?_|apply a_n|apply a_x|apply a_r|refine zO ?_|refine vY ?_|refine gTY ?_|refine gFY ?_|refine cFY ?_|(refine zGY ?_ ?_ <;> (intro _hg; try (exfalso; omega)))|refine af rfl ?_|refine r1Y ?_|fail)) <;> (try clear zz)
  all_goals (refine bP ?_; (repeat' split) <;> omega)
 have ix:=ix2 hk.1
 have iy:=ix2 hk.2
 have hc:=mX (l.getD k default) (m.getD k default)
 have hd:=nU hk.1 hk.2
 by_cases he:bl (l.getD k default) (m.getD k default)=0
 ·rw [if_neg (fun h=>h he)] at hd
  rw [he] at hc
  have z:decide ((0:Int) ≠ 0)=false:=rfl
  (have zz:=aI @ak (aI @ix (aI @iy @z)); repeat' (first|refine zW ?_|refine zM ?_|apply a_n|refine zO ?_|refine vY ?_|refine cY ?_ (hp:=hc) (hs:=by (first | refine aa ?_ rfl | apply ac); (repeat' (first | exact ab | apply ag | apply ae | exact bj _)); first | done | fail)|refine gTY ?_|refine cFY ?_|(refine zGY ?_ ?_ <;> (intro _hg; try (exfalso; omega)))|fail)) <;> (try clear zz)
  exact ⟨k + 1,by omega,⟨by omega,by omega,h3.trans hd⟩,ag0⟩
 ·rw [if_pos he] at hd
  have z:decide (bl (l.getD k default) (m.getD k default) ≠ 0)=true:=decide_eq_true he
  rw [h3,hd]
  (have zz:=aI @ak (aI @ix (aI @iy @z)); repeat' (first|refine zW ?_|refine zM ?_|apply a_n|apply a_r|refine zO ?_|refine vY ?_|refine cY ?_ (hp:=hc) (hs:=by (first | refine aa ?_ rfl | apply ac); (repeat' (first | exact ab | apply ag | apply ae | exact bj _)); first | done | fail)|refine gTY ?_|refine cTY ?_|(refine zGY ?_ ?_ <;> (intro _hg; try (exfalso; omega)))|refine af rfl ?_|refine r1Y ?_|fail)) <;> (try clear zz)
  exact .int _ _
theorem kL {l:Spx} {k:Nat}:kE l k=if bv (l.getD k default)=false then 2 else if 0 < k∧0 ≤ bl (l.getD (k - 1) default) (l.getD k default) then 14 else 0:=rfl
theorem eW (l:Spx) (hl:Shn l):Pure Tryz.prog 29 [aq l] (.int .i64 (bo l)):=by
 refine Pure.of_c2 follows zZ (Nat.le_of_ble_eq_true rfl) ?_
 simp only [b29,cO,cG,cN,cM,cD,cF,cB,ax,aN]
 have hl':l.length ≤ 17592186044416:=hl
 by_cases h0:l.length=0
 ·rw [show bo l=16 by unfold bo; rw [if_pos h0]]
  (have zz:=@ak; repeat' (first|refine zW ?_|apply a_n|apply a_r|refine zO ?_|refine vZ ?_|(refine zGZ ?_ ?_ <;> (intro _hg; try (exfalso; omega)))|refine af rfl ?_|refine r1Z ?_|fail)) <;> (try clear zz)
  all_goals exact bP rfl
 by_cases h8:8 < l.length
 ·rw [show bo l=5 by unfold bo; rw [if_neg h0,if_pos h8]]
  (have zz:=@ak; repeat' (first|refine zW ?_|apply a_n|apply a_r|refine zO ?_|refine vZ ?_|(refine zGZ ?_ ?_ <;> (intro _hg; try (exfalso; omega)))|refine af rfl ?_|refine r1Z ?_|fail)) <;> (try clear zz)
  all_goals exact bP rfl
 rw [show bo l=bW (kE l) l.length by unfold bo; rw [if_neg h0,if_neg h8]]
 (have zz:=@ak; repeat' (first|refine zW ?_|apply a_n|refine zO ?_|refine vZ ?_|(refine zGZ ?_ ?_ <;> (intro _hg; try (exfalso; omega)))|fail)) <;> (try clear zz)
 refine aS (X:=Nat) (fun k=>[(0,aq l),(13,aq l),(14,.int .i64 l.length),(15,.int .i64 k)]) (fun k H nx=>k ≤ l.length∧∀ i,i < k→kE l i=0) (fun k=>l.length - k) 0 ⟨Nat.zero_le _,fun i h=>absurd h (by omega)⟩ ag0 ?_
 rintro k H nx ⟨h1,h2⟩
 by_cases hk:k < l.length
 rotate_left
 ·rw [bZ fun i hi=>h2 i (by omega)]
  (have zz:=@ak; repeat' (first|refine zW ?_|apply a_n|apply a_x|refine zO ?_|refine vY ?_|(refine zGY ?_ ?_ <;> (intro _hg; try (exfalso; omega)))|refine af rfl ?_|refine r1Y ?_|fail)) <;> (try clear zz)
  exact .int _ _
 have ix:=ix2 hk
 have hp:=rB (l.getD k default)
 have hs:=kL (l:=l) (k:=k)
 cases hr:bv (l.getD k default)
 ·rw [hr] at hp
  rw [hr,if_pos rfl] at hs
  rw [bT hk h2 (by rw [hs]; decide),hs]
  (have zz:=aI @ak @ix; repeat' (first|refine zW ?_|apply a_n|apply a_r|refine zO ?_|refine vY ?_|refine cY ?_ (hp:=hp) (hs:=by (first | refine aa ?_ rfl | apply ac); (repeat' (first | exact ab | apply ag | apply ae | exact bj _)); first | done | fail)|refine alY ?_|refine stY ?_|refine cTY ?_|(refine zGY ?_ ?_ <;> (intro _hg; try (exfalso; omega)))|refine af rfl ?_|refine r1Y ?_|fail)) <;> (try clear zz)
  exact .int _ _
 rw [hr] at hp
 rw [hr,if_neg (by decide)] at hs
 by_cases hk0:0 < k
 rotate_left
 ·rw [if_neg (fun h=>hk0 h.1)] at hs
  have zk:decide (0 < (k:Int))=false:=decide_eq_false (by omega)
  (have zz:=aI @ak (aI @ix @zk); repeat' (first|refine zW ?_|refine zM ?_|apply a_n|refine zO ?_|refine vY ?_|refine cY ?_ (hp:=hp) (hs:=by (first | refine aa ?_ rfl | apply ac); (repeat' (first | exact ab | apply ag | apply ae | exact bj _)); first | done | fail)|refine alY ?_|refine stY ?_|refine gFY ?_|refine cFY ?_|(refine zGY ?_ ?_ <;> (intro _hg; try (exfalso; omega)))|fail)) <;> (try clear zz)
  exact ⟨k + 1,by omega,⟨by omega,fun i hi=>by
   rcases Nat.lt_succ_iff_lt_or_eq.1 hi with h | rfl
   ·exact h2 i h
   ·exact hs⟩,ag0⟩
 have zk:decide (0 < (k:Int))=true:=decide_eq_true (by omega)
 have iy:dR 2 (aq l) (.int .i64 ((k:Int) - 1))=some (.iptr [.int .i64 (l.getD (k - 1) default).color,.int .i64 (l.getD (k - 1) default).label] 0):=by
  have:=ix2 (l:=l) (k:=k - 1) (by omega)
  rwa [show ((k - 1:Nat):Int)=(k:Int) - 1 by omega] at this
 have hc:=r9 (l.getD (k - 1) default) (l.getD k default)
 by_cases hv:0 ≤ bl (l.getD (k - 1) default) (l.getD k default)
 ·have z:decide (0 ≤ bl (l.getD (k - 1) default) (l.getD k default))=true:=decide_eq_true hv
  rw [if_pos ⟨hk0,hv⟩] at hs
  rw [bT hk h2 (by rw [hs]; decide),hs]
  (have zz:=aI @ak (aI @ix (aI @iy (aI @zk @z))); repeat' (first|refine zW ?_|refine zM ?_|apply a_n|apply a_r|refine zO ?_|refine vY ?_|refine cY ?_ (hp:=by first | exact hp | exact hc) (hs:=by (first | refine aa ?_ rfl | apply ac); (repeat' (first | exact ab | apply ag | apply ae | exact bj _)); first | done | fail)|refine alY ?_|refine stY ?_|refine gTY ?_|refine cTY ?_|refine cFY ?_|(refine zGY ?_ ?_ <;> (intro _hg; try (exfalso; omega)))|refine af rfl ?_|refine r1Y ?_|fail)) <;> (try clear zz)
  exact .int _ _
 ·have z:decide (0 ≤ bl (l.getD (k - 1) default) (l.getD k default))=false:=decide_eq_false hv
  rw [if_neg (fun h=>hv h.2)] at hs
  (have zz:=aI @ak (aI @ix (aI @iy (aI @zk @z))); repeat' (first|refine zW ?_|refine zM ?_|apply a_n|refine zO ?_|refine vY ?_|refine cY ?_ (hp:=by first | exact hp | exact hc) (hs:=by (first | refine aa ?_ rfl | apply ac); (repeat' (first | exact ab | apply ag | apply ae | exact bj _)); first | done | fail)|refine alY ?_|refine stY ?_|refine gTY ?_|refine cFY ?_|(refine zGY ?_ ?_ <;> (intro _hg; try (exfalso; omega)))|fail)) <;> (try clear zz)
  exact ⟨k + 1,by omega,⟨by omega,fun i hi=>by
   rcases Nat.lt_succ_iff_lt_or_eq.1 hi with h | rfl
   ·exact h2 i h
   ·exact hs⟩,ag0⟩
theorem r7 (l:Spx) (hl:Shn l):Pure Tryz.prog 61 [aq l] (.int .i64 (bo l)):=by
 refine Pure.of_c2 follows Bd (Nat.le_of_ble_eq_true rfl) ?_
 simp only [b61,cO,cG,cN,cM,cD,cF,cB,ax,aN]
 have hl':l.length ≤ 17592186044416:=hl
 by_cases h0:l.length=0
 ·rw [show bo l=16 by unfold bo; rw [if_pos h0]]
  (have zz:=@ak; repeat' (first|refine zW ?_|apply a_n|apply a_r|refine zO ?_|refine vZ ?_|(refine zGZ ?_ ?_ <;> (intro _hg; try (exfalso; omega)))|refine af rfl ?_|refine r1Z ?_|fail)) <;> (try clear zz)
  all_goals exact bP rfl
 by_cases h8:8 < l.length
 ·rw [show bo l=5 by unfold bo; rw [if_neg h0,if_pos h8]]
  (have zz:=@ak; repeat' (first|refine zW ?_|apply a_n|apply a_r|refine zO ?_|refine vZ ?_|(refine zGZ ?_ ?_ <;> (intro _hg; try (exfalso; omega)))|refine af rfl ?_|refine r1Z ?_|fail)) <;> (try clear zz)
  all_goals exact bP rfl
 rw [show bo l=bW (kE l) l.length by unfold bo; rw [if_neg h0,if_neg h8]]
 (have zz:=@ak; repeat' (first|refine zW ?_|apply a_n|refine zO ?_|refine vZ ?_|(refine zGZ ?_ ?_ <;> (intro _hg; try (exfalso; omega)))|fail)) <;> (try clear zz)
 refine aS (X:=Nat) (fun k=>[(0,aq l),(3,.int .i64 k)]) (fun k H nx=>k ≤ l.length∧∀ i,i < k→kE l i=0) (fun k=>l.length - k) 0 ⟨Nat.zero_le _,fun i h=>absurd h (by omega)⟩ ag0 ?_
 rintro k H nx ⟨h1,h2⟩
 by_cases hk:k < l.length
 rotate_left
 ·rw [bZ fun i hi=>h2 i (by omega)]
  (have zz:=@ak; repeat' (first|refine zW ?_|apply a_n|apply a_x|refine zO ?_|refine vY ?_|(refine zGY ?_ ?_ <;> (intro _hg; try (exfalso; omega)))|refine af rfl ?_|refine r1Y ?_|fail)) <;> (try clear zz)
  exact .int _ _
 have ix:=ix2 hk
 have hp:=ug (l.getD k default)
 have hs:=kL (l:=l) (k:=k)
 cases hr:bv (l.getD k default)
 ·rw [hr] at hp
  rw [hr,if_pos rfl] at hs
  rw [bT hk h2 (by rw [hs]; decide),hs]
  (have zz:=aI @ak @ix; repeat' (first|refine zW ?_|apply a_n|apply a_r|refine zO ?_|refine vY ?_|refine cY ?_ (hp:=hp) (hs:=by (first | refine aa ?_ rfl | apply ac); (repeat' (first | exact ab | apply ag | apply ae | exact bj _)); first | done | fail)|refine cTY ?_|(refine zGY ?_ ?_ <;> (intro _hg; try (exfalso; omega)))|refine af rfl ?_|refine r1Y ?_|fail)) <;> (try clear zz)
  exact .int _ _
 rw [hr] at hp
 rw [hr,if_neg (by decide)] at hs
 by_cases hk0:0 < k
 rotate_left
 ·rw [if_neg (fun h=>hk0 h.1)] at hs
  have zk:decide (0 < (k:Int))=false:=decide_eq_false (by omega)
  (have zz:=aI @ak (aI @ix @zk); repeat' (first|refine zW ?_|refine zM ?_|apply a_n|refine zO ?_|refine vY ?_|refine cY ?_ (hp:=hp) (hs:=by (first | refine aa ?_ rfl | apply ac); (repeat' (first | exact ab | apply ag | apply ae | exact bj _)); first | done | fail)|refine gFY ?_|refine cFY ?_|(refine zGY ?_ ?_ <;> (intro _hg; try (exfalso; omega)))|fail)) <;> (try clear zz)
  exact ⟨k + 1,by omega,⟨by omega,fun i hi=>by
   rcases Nat.lt_succ_iff_lt_or_eq.1 hi with h | rfl
   ·exact h2 i h
   ·exact hs⟩,ag0⟩
 have zk:decide (0 < (k:Int))=true:=decide_eq_true (by omega)
 have iy:dR 2 (aq l) (.int .i64 ((k:Int) - 1))=some (.iptr [.int .i64 (l.getD (k - 1) default).color,.int .i64 (l.getD (k - 1) default).label] 0):=by
  have:=ix2 (l:=l) (k:=k - 1) (by omega)
  rwa [show ((k - 1:Nat):Int)=(k:Int) - 1 by omega] at this
 have hc:=mX (l.getD (k - 1) default) (l.getD k default)
 by_cases hv:0 ≤ bl (l.getD (k - 1) default) (l.getD k default)
 ·have z:decide (0 ≤ bl (l.getD (k - 1) default) (l.getD k default))=true:=decide_eq_true hv
  rw [if_pos ⟨hk0,hv⟩] at hs
  rw [bT hk h2 (by rw [hs]; decide),hs]
  (have zz:=aI @ak (aI @ix (aI @iy (aI @zk @z))); repeat' (first|refine zW ?_|refine zM ?_|apply a_n|apply a_r|refine zO ?_|refine vY ?_|refine cY ?_ (hp:=by first | exact hp | exact hc) (hs:=by (first | refine aa ?_ rfl | apply ac); (repeat' (first | exact ab | apply ag | apply ae | exact bj _)); first | done | fail)|refine gTY ?_|refine cTY ?_|refine cFY ?_|(refine zGY ?_ ?_ <;> (intro _hg; try (exfalso; omega)))|refine af rfl ?_|refine r1Y ?_|fail)) <;> (try clear zz)
  exact .int _ _
 ·have z:decide (0 ≤ bl (l.getD (k - 1) default) (l.getD k default))=false:=decide_eq_false hv
  rw [if_neg (fun h=>hv h.2)] at hs
  (have zz:=aI @ak (aI @ix (aI @iy (aI @zk @z))); repeat' (first|refine zW ?_|refine zM ?_|apply a_n|refine zO ?_|refine vY ?_|refine cY ?_ (hp:=by first | exact hp | exact hc) (hs:=by (first | refine aa ?_ rfl | apply ac); (repeat' (first | exact ab | apply ag | apply ae | exact bj _)); first | done | fail)|refine gTY ?_|refine cFY ?_|(refine zGY ?_ ?_ <;> (intro _hg; try (exfalso; omega)))|fail)) <;> (try clear zz)
  exact ⟨k + 1,by omega,⟨by omega,fun i hi=>by
   rcases Nat.lt_succ_iff_lt_or_eq.1 hi with h | rfl
   ·exact h2 i h
   ·exact hs⟩,ag0⟩
end Go.Proofs.YtpfkjcjgdilkkaaGreat
namespace Go.Proofs.YtpfkjcjgdilkkaaGreat
open Go Go.Abs
open Nat (reduceEqDiff reduceAdd reduceLeDiff)
theorem rU (a b c d:Int):cu [.int,.int] [.int .i64 a,.int .i64 b] [.int .i64 c,.int .i64 d]=some (decide (a=c∧b=d)):=by
 have e:∀ x y:Int,(x == y)=decide (x=y):=fun x y=>rfl
 by_cases h1:a=c
 ·by_cases h2:b=d
  ·subst h1 h2; simp [cu,fC]
  ·subst h1; simp only [cu,fC,if_true,e,decide_eq_false h2,decide_true,h2,and_false,decide_false]
 ·simp only [cu,fC,if_true,e,decide_eq_false h1,h1,false_and,decide_false]
theorem acq (a b c d:Int):iU .eql [.int,.int] [.int .i64 a,.int .i64 b] [.int .i64 c,.int .i64 d]=some (.bool (decide (a=c∧b=d))):=by
 unfold iU; rw [rU]
theorem acn (a b c d:Int):iU .neq [.int,.int] [.int .i64 a,.int .i64 b] [.int .i64 c,.int .i64 d]=some (.bool (!decide (a=c∧b=d))):=by
 unfold iU; rw [rU]
theorem f6 (v w:Vtx):decide (v.color=w.color∧v.label=w.label)=decide (v=w):=decide_eq_decide.2 oe.symm
theorem hU {H:Hp} {d:Nat} {x y:AV}:di 2 (aj H d [x,y]) (.msl d 2 2 0 1)=some (1,[x,y]):=jo (n:=2) (len:=1) (off:=0) (cs:=[x,y]) ai rfl (by simp)
theorem ce {α:Type} [Inhabited α] {l:List α} {k:Nat} (h:k < l.length):l.take (k + 1)=l.take k ++ [l.getD k default]:=by
 rw [List.take_add_one]; simp [List.getD,h]
section
variable {α:Type} {K:α→α→Int} {v x:α} {l:List α}
end
def bw (a b:Spx):Bool:=a.all fun v=>decide (v ∈ b)
attribute [local irreducible] aD ah aX aP aH aK az aL aR be Go.Abs.Fn aO Go.Abs.Pure ar aE Yl
theorem AQ (l:Spx) (v:Vtx) (hl:Shn l):Pure Tryz.prog 97 [aq l,bf v] (.bool (decide (v ∈ l))):=by
 refine Pure.of_c2 follows Bk (Nat.le_of_ble_eq_true rfl) ?_
 simp only [b97,cO,cG,cN,cM,cD,cF,cB,ax,aN]
 have hl':l.length ≤ 17592186044416:=hl
 (have zz:=@ak; repeat' (first|refine zW ?_|apply a_n|refine zO ?_|refine vZ ?_|refine bxZ ?_|fail)) <;> (try clear zz)
 refine n3 (fun k=>[(0,aq l),(3,.ptr 0 2 0),(5,.int .i64 k)]) l.length (fun k=>l.getD k default ≠ v) (by simp (disch:=omega) only [agr,ZG,reduceEqDiff,↓reduceIte,List.length_cons,List.length_nil,Nat.zero_add,reduceAdd]) ?_
 intro k hk hz
 by_cases hk2:k < l.length
 rotate_left
 ·(have zz:=@ak; repeat' (first|refine zW ?_|apply a_n|apply a_x|refine zO ?_|refine vZ ?_|(refine zGZ ?_ ?_ <;> (intro _hg; try (exfalso; omega)))|refine af rfl ?_|refine r1Z ?_|fail)) <;> (try clear zz)
  exact bz (tT fun i hi=>hz i (by omega)).symm
 have ix:=ix2 hk2
 have hd:=f6 (l.getD k default) v
 by_cases he:l.getD k default=v
 ·rw [decide_eq_true he] at hd
  rw [uV hk2 he]
  (have zz:=aI @ak (aI @ix (aI @acq @hd)); repeat' (first|refine zW ?_|apply a_n|apply a_r|refine zO ?_|refine vZ ?_|refine cTZ ?_|(refine zGZ ?_ ?_ <;> (intro _hg; try (exfalso; omega)))|refine af rfl ?_|refine r1Z ?_|fail)) <;> (try clear zz)
  exact .bool _
 ·rw [decide_eq_false he] at hd
  (have zz:=aI @ak (aI @ix (aI @acq @hd)); repeat' (first|refine zW ?_|apply a_n|refine zO ?_|refine vZ ?_|refine cFZ ?_|(refine zGZ ?_ ?_ <;> (intro _hg; try (exfalso; omega)))|fail)) <;> (try clear zz)
  exact ⟨hk2,he,ag0,rfl,rfl⟩
theorem ut (a b:Spx) (ha:Shn a) (hb:Shn b):Pure Tryz.prog 63 [aq a,aq b] (.bool (bw a b)):=by
 refine Pure.of_c2 follows Bg (Nat.le_of_ble_eq_true rfl) ?_
 simp only [b63,cO,cG,cN,cM,cD,cF,cB,ax,aN]
 have ha':a.length ≤ 17592186044416:=ha
 (have zz:=@ak; repeat' (first|refine zW ?_|apply a_n|refine zO ?_|refine vZ ?_|fail)) <;> (try clear zz)
 refine n3 (fun k=>[(0,aq a),(1,aq b),(5,.int .i64 k)]) a.length (fun k=>decide (a.getD k default ∈ b)=true) ag0 ?_
 intro k hk hz
 by_cases hk2:k < a.length
 rotate_left
 ·(have zz:=@ak; repeat' (first|refine zW ?_|apply a_n|apply a_x|refine zO ?_|refine vZ ?_|(refine zGZ ?_ ?_ <;> (intro _hg; try (exfalso; omega)))|refine af rfl ?_|refine r1Z ?_|fail)) <;> (try clear zz)
  exact bz (gx fun i hi=>hz i (by omega)).symm
 have ix:=ix2 hk2
 have hh:=AQ b (a.getD k default) hb
 cases hm:decide (a.getD k default ∈ b)
 ·rw [hm] at hh
  rw [show bw a b=false from fy hk2 hm]
  (have zz:=aI @ak @ix; repeat' (first|refine zW ?_|apply a_n|apply a_r|refine zO ?_|refine vZ ?_|refine cZ ?_ (hp:=hh) (hs:=by (first | refine aa ?_ rfl | apply ac); (repeat' (first | exact ab | apply ag | apply ae | exact aw _ | exact bj _)); first | done | fail)|refine cTZ ?_|(refine zGZ ?_ ?_ <;> (intro _hg; try (exfalso; omega)))|refine af rfl ?_|refine r1Z ?_|fail)) <;> (try clear zz)
  exact .bool _
 ·rw [hm] at hh
  (have zz:=aI @ak @ix; repeat' (first|refine zW ?_|apply a_n|refine zO ?_|refine vZ ?_|refine cZ ?_ (hp:=hh) (hs:=by (first | refine aa ?_ rfl | apply ac); (repeat' (first | exact ab | apply ag | apply ae | exact aw _ | exact bj _)); first | done | fail)|refine cFZ ?_|(refine zGZ ?_ ?_ <;> (intro _hg; try (exfalso; omega)))|fail)) <;> (try clear zz)
  exact ⟨hk2,rfl,ag0,rfl,rfl⟩
def gW (c:List Spx):Bool:=decide (c.length ≤ 30) && c.all fun s=>decide (s.length ≤ 10)
theorem w5 (l:Spx) (hl:Shn l):Pure Tryz.prog 94 [aq l] (.bool (decide (l.length ≤ 10))):=by
 refine Pure.of_c2 follows Bc (Nat.le_of_ble_eq_true rfl) ?_
 simp only [b94,cO,cG,cN,cM,cD,cF,cB,ax,aN]
 (have zz:=@ak; repeat' (first|refine zW ?_|apply a_n|refine zO ?_|refine vZ ?_|refine af rfl ?_|refine r1Z ?_|fail)) <;> (try clear zz)
 exact bz (decide_eq_decide.2 (by omega))
theorem vu (c:List Spx) (hc:Shn c) (hs:∀ s ∈ c,Shn s):Pure Tryz.prog 60 [aC c] (.bool (gW c)):=by
 refine Pure.of_c2 follows Bl (Nat.le_of_ble_eq_true rfl) ?_
 simp only [b60,cO,cG,cN,cM,cD,cF,cB,ax,aN]
 have hc':c.length ≤ 17592186044416:=hc
 unfold gW
 by_cases h:c.length ≤ 30
 rotate_left
 ·have z:decide (30 < (c.length:Int))=true:=decide_eq_true (by omega)
  rw [decide_eq_false h,Bool.false_and]
  (have zz:=aI @ao @z; repeat' (first|refine zW ?_|apply a_n|apply a_r|refine zO ?_|refine vZ ?_|refine cTZ ?_|refine af rfl ?_|refine r1Z ?_|fail)) <;> (try clear zz)
  exact .bool _
 have z:decide (30 < (c.length:Int))=false:=decide_eq_false (by omega)
 rw [decide_eq_true h,Bool.true_and]
 (have zz:=aI @ao @z; repeat' (first|refine zW ?_|apply a_n|refine zO ?_|refine vZ ?_|refine cFZ ?_|fail)) <;> (try clear zz)
 refine n3 (fun k=>[(0,aC c),(3,.int .i64 k)]) c.length (fun k=>decide ((c.getD k default).length ≤ 10)=true) ag0 ?_
 intro k hk hz
 by_cases hk2:k < c.length
 rotate_left
 ·(have zz:=@ao; repeat' (first|refine zW ?_|apply a_n|apply a_x|refine zO ?_|refine vZ ?_|(refine zGZ ?_ ?_ <;> (intro _hg; try (exfalso; omega)))|refine af rfl ?_|refine r1Z ?_|fail)) <;> (try clear zz)
  exact bz (gx fun i hi=>hz i (by omega)).symm
 have ix:=eT hk2
 have hf:=w5 (c.getD k default) (hs _ (aA hk2))
 cases hm:decide ((c.getD k default).length ≤ 10)
 ·rw [hm] at hf
  rw [fy hk2 hm]
  (have zz:=aI @ao @ix; repeat' (first|refine zW ?_|apply a_n|apply a_r|refine zO ?_|refine vZ ?_|refine cZ ?_ (hp:=hf) (hs:=by (first | refine aa ?_ rfl | apply ac); (repeat' (first | exact ab | apply ag | apply ae | exact aw _)); first | done | fail)|refine cTZ ?_|(refine zGZ ?_ ?_ <;> (intro _hg; try (exfalso; omega)))|refine af rfl ?_|refine r1Z ?_|fail)) <;> (try clear zz)
  exact .bool _
 ·rw [hm] at hf
  (have zz:=aI @ao @ix; repeat' (first|refine zW ?_|apply a_n|refine zO ?_|refine vZ ?_|refine cZ ?_ (hp:=hf) (hs:=by (first | refine aa ?_ rfl | apply ac); (repeat' (first | exact ab | apply ag | apply ae | exact aw _)); first | done | fail)|refine cFZ ?_|(refine zGZ ?_ ?_ <;> (intro _hg; try (exfalso; omega)))|fail)) <;> (try clear zz)
  exact ⟨hk2,rfl,ag0,rfl,rfl⟩
abbrev c9 (c:List Spx):AV:=.agg [aC c]
theorem br (c:List Spx):Dat (c9 c):=Dat.agg (DatL.cons (bh c) DatL.nil)
instance datI_encCx {c:List Spx}:DatI (c9 c):=⟨br c⟩
theorem wv (c:List Spx) (hc:Shn c) (hs:∀ s ∈ c,Shn s):Pure Tryz.prog 22 [c9 c] (.bool (gW c)):=by
 refine Pure.of_c2 follows Bm (Nat.le_of_ble_eq_true rfl) ?_
 simp only [b22,cO,cG,cN,cM,cD,cF,cB,ax,aN]
 have h:=vu c hc hs
 (have zz:=aI @aB @av; repeat' (first|refine zW ?_|apply a_n|refine zO ?_|refine vZ ?_|refine cZ ?_ (hp:=h) (hs:=by (first | refine aa ?_ rfl | apply ac); (repeat' (first | exact ab | apply ag | apply ae | exact bh _)); first | done | fail)|refine bxZ ?_|refine af rfl ?_|refine r1Z ?_|fail)) <;> (try clear zz)
 exact .bool _
end Go.Proofs.YtpfkjcjgdilkkaaGreat
namespace Go.Proofs.YtpfkjcjgdilkkaaGreat
open Go Go.Abs
theorem e6 {α:Type} [Inhabited α] {l:List α} {p:α→Bool} {k:Nat} (hk:k < l.length) (h:∀ i,i < k→p (l.getD i default)=false) (hv:p (l.getD k default)=true):l.any p=true∧l.findIdx p=k:=by
 have e:l.getD k default=l[k]:=by simp [List.getD,hk]
 refine ⟨List.any_eq_true.2 ⟨l[k],List.getElem_mem hk,by rw [← e]; exact hv⟩,(List.findIdx_eq hk).2 ⟨by rw [← e]; exact hv,fun j hj=>by have:=h j hj; rwa [show l.getD j default=l[j] by simp [List.getD,show j < l.length by omega]] at this⟩⟩
section
attribute [local irreducible] aD ah aX aP aH aK az aL aR be Go.Abs.Fn aO Go.Abs.Pure ar aE Yl
theorem uh (l:Spx) (p:Vtx→Bool) (g:Nat) (caps:List AV) (hd:∀ x ∈ caps,Dat x) (hg:∀ x ∈ l,Pure Tryz.prog g (bf x :: caps) (.bool (p x))) (hl:Shn l):Pure Tryz.prog 78 [aq l,.func g caps] (.int .i64 (if l.any p then (l.findIdx p:Nat) else -1)):=by
 refine Pure.of_c2 follows Bw (Nat.le_of_ble_eq_true rfl) ?_
 simp only [b78,cO,cG,cN,cM,cD,cF,cB,ax,aN]
 have hl':l.length ≤ 17592186044416:=hl
 (have zz:=@ak; repeat' (first|refine zW ?_|apply a_n|refine zO ?_|refine vZ ?_|fail)) <;> (try clear zz)
 refine aS (X:=Nat) (fun k=>[(0,aq l),(1,.func g caps),(6,aq l),(7,.int .i64 l.length),(8,.int .i64 k)]) (fun k H nx=>k ≤ l.length∧∀ i,i < k→p (l.getD i default)=false) (fun k=>l.length - k) 0 ⟨Nat.zero_le _,fun i h=>absurd h (by omega)⟩ ag0 ?_
 rintro k H nx ⟨hk,hz⟩
 by_cases hk2:k < l.length
 rotate_left
 ·rw [eO fun i hi=>hz i (by omega),if_neg (by decide)]
  (have zz:=and_self; repeat' (first|refine zW ?_|apply a_n|apply a_x|refine zO ?_|refine vY ?_|(refine zGY ?_ ?_ <;> (intro _hg; try (exfalso; omega)))|refine af rfl ?_|refine r1Y ?_|fail)) <;> (try clear zz)
  exact bP rfl
 have ix:=ix2 hk2
 have hc:=hg _ (aA hk2)
 cases hp:p (l.getD k default)
 ·rw [hp] at hc
  (have zz:=@ix; repeat' (first|refine zW ?_|apply a_n|refine zO ?_|refine vY ?_|(refine zGY ?_ ?_ <;> (intro _hg; try (exfalso; omega)))|fail)) <;> (try clear zz)
  refine bN ev0 ev0 hc (ac (ap (bj _ _) (au hd))) ?_
  (have zz:=and_self; repeat' (first|apply a_n|refine zO ?_|refine vY ?_|refine cFY ?_|fail)) <;> (try clear zz)
  exact ⟨k + 1,by omega,⟨by omega,fun i hi=>by
   rcases Nat.lt_succ_iff_lt_or_eq.1 hi with h | rfl
   ·exact hz i h
   ·exact hp⟩,ag0⟩
 ·rw [hp] at hc
  obtain ⟨e1,e2⟩:=e6 hk2 hz hp
  rw [e1,e2,if_pos rfl]
  (have zz:=@ix; repeat' (first|refine zW ?_|apply a_n|refine zO ?_|refine vY ?_|(refine zGY ?_ ?_ <;> (intro _hg; try (exfalso; omega)))|fail)) <;> (try clear zz)
  refine bN ev0 ev0 hc (ac (ap (bj _ _) (au hd))) ?_
  (have zz:=and_self; repeat' (first|refine zW ?_|apply a_n|apply a_r|refine zO ?_|refine vY ?_|refine cTY ?_|refine af rfl ?_|refine r1Y ?_|fail)) <;> (try clear zz)
  exact .int _ _
theorem o8 (l:Spx) (p:Vtx→Bool) (g:Nat) (caps:List AV) (hd:∀ x ∈ caps,Dat x) (hg:∀ x ∈ l,Pure Tryz.prog g (bf x :: caps) (.bool (p x))) (hl:Shn l):Pure Tryz.prog 35 [aq l,.func g caps] (.bool (l.any p)):=by
 refine Pure.of_c2 follows Bf (Nat.le_of_ble_eq_true rfl) ?_
 simp only [b35,cO,cG,cN,cM,cD,cF,cB,ax,aN]
 have h:=uh l p g caps hd hg hl
 (have zz:=and_self; repeat' (first|refine zW ?_|apply a_n|refine zO ?_|refine vZ ?_|refine cZ ?_ (hp:=h) (hs:=by (first | refine aa ?_ rfl | apply ac); (repeat' (first | exact ab | apply ag | apply ae | exact aw _ | exact Dat.func hd)); first | done | fail)|refine af rfl ?_|refine r1Z ?_|fail)) <;> (try clear zz)
 cases hA:l.any p
 ·exact bz (by simp)
 ·exact bz (by simp)
theorem tE (l:List Spx) (p:Spx→Bool) (g:Nat) (caps:List AV) (hd:∀ x ∈ caps,Dat x) (hg:∀ x ∈ l,Pure Tryz.prog g (aq x :: caps) (.bool (p x))) (hl:Shn l):Pure Tryz.prog 80 [aC l,.func g caps] (.int .i64 (if l.any p then (l.findIdx p:Nat) else -1)):=by
 refine Pure.of_c2 follows Bn (Nat.le_of_ble_eq_true rfl) ?_
 simp only [b80,cO,cG,cN,cM,cD,cF,cB,ax,aN]
 have hl':l.length ≤ 17592186044416:=hl
 (have zz:=@ao; repeat' (first|refine zW ?_|apply a_n|refine zO ?_|refine vZ ?_|fail)) <;> (try clear zz)
 refine aS (X:=Nat) (fun k=>[(0,aC l),(1,.func g caps),(6,aC l),(7,.int .i64 l.length),(8,.int .i64 k)]) (fun k H nx=>k ≤ l.length∧∀ i,i < k→p (l.getD i default)=false) (fun k=>l.length - k) 0 ⟨Nat.zero_le _,fun i h=>absurd h (by omega)⟩ ag0 ?_
 rintro k H nx ⟨hk,hz⟩
 by_cases hk2:k < l.length
 rotate_left
 ·rw [eO fun i hi=>hz i (by omega),if_neg (by decide)]
  (have zz:=and_self; repeat' (first|refine zW ?_|apply a_n|apply a_x|refine zO ?_|refine vY ?_|(refine zGY ?_ ?_ <;> (intro _hg; try (exfalso; omega)))|refine af rfl ?_|refine r1Y ?_|fail)) <;> (try clear zz)
  exact bP rfl
 have ix:=eT hk2
 have hc:=hg _ (aA hk2)
 cases hp:p (l.getD k default)
 ·rw [hp] at hc
  (have zz:=@ix; repeat' (first|refine zW ?_|apply a_n|refine zO ?_|refine vY ?_|(refine zGY ?_ ?_ <;> (intro _hg; try (exfalso; omega)))|fail)) <;> (try clear zz)
  refine bN ev0 ev0 hc (ac (ap (aw _ _) (au hd))) ?_
  (have zz:=and_self; repeat' (first|apply a_n|refine zO ?_|refine vY ?_|refine cFY ?_|fail)) <;> (try clear zz)
  exact ⟨k + 1,by omega,⟨by omega,fun i hi=>by
   rcases Nat.lt_succ_iff_lt_or_eq.1 hi with h | rfl
   ·exact hz i h
   ·exact hp⟩,ag0⟩
 ·rw [hp] at hc
  obtain ⟨e1,e2⟩:=e6 hk2 hz hp
  rw [e1,e2,if_pos rfl]
  (have zz:=@ix; repeat' (first|refine zW ?_|apply a_n|refine zO ?_|refine vY ?_|(refine zGY ?_ ?_ <;> (intro _hg; try (exfalso; omega)))|fail)) <;> (try clear zz)
  refine bN ev0 ev0 hc (ac (ap (aw _ _) (au hd))) ?_
  (have zz:=and_self; repeat' (first|refine zW ?_|apply a_n|apply a_r|refine zO ?_|refine vY ?_|refine cTY ?_|refine af rfl ?_|refine r1Y ?_|fail)) <;> (try clear zz)
  exact .int _ _
theorem jn (l:List Spx) (p:Spx→Bool) (g:Nat) (caps:List AV) (hd:∀ x ∈ caps,Dat x) (hg:∀ x ∈ l,Pure Tryz.prog g (aq x :: caps) (.bool (p x))) (hl:Shn l):Pure Tryz.prog 38 [aC l,.func g caps] (.bool (l.any p)):=by
 refine Pure.of_c2 follows A3 (Nat.le_of_ble_eq_true rfl) ?_
 simp only [b38,cO,cG,cN,cM,cD,cF,cB,ax,aN]
 have h:=tE l p g caps hd hg hl
 (have zz:=and_self; repeat' (first|refine zW ?_|apply a_n|refine zO ?_|refine vZ ?_|refine cZ ?_ (hp:=h) (hs:=by (first | refine aa ?_ rfl | apply ac); (repeat' (first | exact ab | apply ag | apply ae | exact bh _ | exact Dat.func hd)); first | done | fail)|refine af rfl ?_|refine r1Z ?_|fail)) <;> (try clear zz)
 cases hA:l.any p
 ·exact bz (by simp)
 ·exact bz (by simp)
theorem uG (l:Spx) (v:Vtx) (hl:Shn l):∃ r:Int,Pure Tryz.prog 79 [aq l,bf v] (.int .i64 r)∧decide (0 ≤ r)=decide (v ∈ l):=by
 have hl':l.length ≤ 17592186044416:=hl
 have hn:l.findIdx (fun x=>decide (x=v))=l.findIdx (fun x=>decide (x=v)):=rfl
 refine ⟨if l.any (fun x=>decide (x=v)) then (l.findIdx (fun x=>decide (x=v)):Nat) else -1,?_,?_⟩
 rotate_left
 ·by_cases hm:v ∈ l
  ·rw [if_pos (List.any_eq_true.2 ⟨v,hm,by simp⟩),decide_eq_true hm]; simp
  ·rw [if_neg,decide_eq_false hm]
   ·rfl
   ·rw [List.any_eq_true]; rintro ⟨x,hx,e⟩
    exact hm ((of_decide_eq_true e) ▸ hx)
 refine Pure.of_c2 follows z6 (Nat.le_of_ble_eq_true rfl) ?_
 simp only [b79,cO,cG,cN,cM,cD,cF,cB,ax,aN]
 (have zz:=@ak; repeat' (first|refine zW ?_|apply a_n|refine zO ?_|refine vZ ?_|refine bxZ ?_|fail)) <;> (try clear zz)
 refine aS (X:=Nat) (fun k=>[(0,aq l),(3,.ptr 0 2 0),(6,aq l),(7,.int .i64 l.length),(8,.int .i64 k)]) (fun k H nx=>k ≤ l.length∧H 0=some [.int .i64 v.color,.int .i64 v.label]∧∀ i,i < k→decide (l.getD i default=v)=false) (fun k=>l.length - k) 0 ⟨Nat.zero_le _,rfl,fun i h=>absurd h (by omega)⟩ (by (iterate 5 refine And.intro rfl ?_); trivial) ?_
 rintro k H nx ⟨hk,g0,hz⟩
 by_cases hk2:k < l.length
 rotate_left
 ·rw [eO fun i hi=>hz i (by omega),if_neg (by decide)]
  (have zz:=and_self; repeat' (first|refine zW ?_|apply a_n|apply a_x|refine zO ?_|refine vY ?_|(refine zGY ?_ ?_ <;> (intro _hg; try (exfalso; omega)))|refine af rfl ?_|refine r1Y ?_|fail)) <;> (try clear zz)
  exact bP rfl
 have ix:=ix2 hk2
 have hd:=f6 v (l.getD k default)
 cases hp:decide (l.getD k default=v)
 ·rw [decide_eq_false (p:=v=l.getD k default) (fun h=>of_decide_eq_false hp h.symm)] at hd
  (have zz:=aI @ix (aI @g0 (aI @acq @hd)); repeat' (first|refine zW ?_|apply a_n|refine zO ?_|refine vY ?_|refine cFY ?_|(refine zGY ?_ ?_ <;> (intro _hg; try (exfalso; omega)))|fail)) <;> (try clear zz)
  exact ⟨k + 1,by omega,⟨by omega,g0,fun i hi=>by
   rcases Nat.lt_succ_iff_lt_or_eq.1 hi with h | rfl
   ·exact hz i h
   ·exact hp⟩,ag0⟩
 ·rw [decide_eq_true (p:=v=l.getD k default) (of_decide_eq_true hp).symm] at hd
  obtain ⟨e1,e2⟩:=e6 (p:=fun x=>decide (x=v)) hk2 hz hp
  rw [e1,e2,if_pos rfl]
  (have zz:=aI @ix (aI @g0 (aI @acq @hd)); repeat' (first|refine zW ?_|apply a_n|apply a_r|refine zO ?_|refine vY ?_|refine cTY ?_|(refine zGY ?_ ?_ <;> (intro _hg; try (exfalso; omega)))|refine af rfl ?_|refine r1Y ?_|fail)) <;> (try clear zz)
  exact .int _ _
theorem kM (l:Spx) (v:Vtx) (hl:Shn l):Pure Tryz.prog 37 [aq l,bf v] (.bool (decide (v ∈ l))):=by
 refine Pure.of_c2 follows Ai (Nat.le_of_ble_eq_true rfl) ?_
 simp only [b37,cO,cG,cN,cM,cD,cF,cB,ax,aN]
 obtain ⟨r,h,e⟩:=uG l v hl
 (have zz:=and_self; repeat' (first|refine zW ?_|apply a_n|refine zO ?_|refine vZ ?_|refine cZ ?_ (hp:=h) (hs:=by (first | refine aa ?_ rfl | apply ac); (repeat' (first | exact ab | apply ag | apply ae | exact aw _ | exact bj _)); first | done | fail)|refine bxZ ?_|refine af rfl ?_|refine r1Z ?_|fail)) <;> (try clear zz)
 exact bz e
theorem ql (x y:Spx) (hx:Shn x) (hy:Shn y):Pure Tryz.prog 20 [aq x,aq y] (.bool (decide (x=y))):=by
 refine Pure.of_c2 follows AH (Nat.le_of_ble_eq_true rfl) ?_
 simp only [b20,cO,cG,cN,cM,cD,cF,cB,ax,aN]
 have hx':x.length ≤ 17592186044416:=hx
 have hy':y.length ≤ 17592186044416:=hy
 by_cases hlen:x.length=y.length
 rotate_left
 ·have z:decide ((x.length:Int) ≠ y.length)=true:=decide_eq_true (by omega)
  rw [decide_eq_false (fun e=>hlen (by rw [e]))]
  (have zz:=aI @ak @z; repeat' (first|refine zW ?_|apply a_n|apply a_r|refine zO ?_|refine vZ ?_|refine cTZ ?_|refine af rfl ?_|refine r1Z ?_|fail)) <;> (try clear zz)
  exact .bool _
 have z:decide ((x.length:Int) ≠ y.length)=false:=decide_eq_false (by omega)
 (have zz:=aI @ak @z; repeat' (first|refine zW ?_|apply a_n|refine zO ?_|refine vZ ?_|refine cFZ ?_|fail)) <;> (try clear zz)
 refine n3 (fun k=>[(0,aq x),(1,aq y),(11,aq x),(12,.int .i64 x.length),(13,.int .i64 k)]) x.length (fun k=>x.getD k default=y.getD k default) ag0 ?_
 intro k hk hz
 by_cases hk2:k < x.length
 rotate_left
 ·(have zz:=and_self; repeat' (first|refine zW ?_|apply a_n|apply a_x|refine zO ?_|refine vZ ?_|(refine zGZ ?_ ?_ <;> (intro _hg; try (exfalso; omega)))|refine af rfl ?_|refine r1Z ?_|fail)) <;> (try clear zz)
  refine bz ?_
  symm; rw [decide_eq_true_iff]
  refine List.ext_getElem hlen fun i h3 h4=>?_
  have:=hz i (by omega)
  simpa [List.getD,h3,h4] using this
 have ix:=ix2 hk2
 have iy:=ix2 (l:=y) (k:=k) (by omega)
 have hd:=f6 (x.getD k default) (y.getD k default)
 by_cases he:x.getD k default=y.getD k default
 ·rw [decide_eq_true he] at hd
  (have zz:=aI @ix (aI @iy (aI @acn @hd)); repeat' (first|refine zW ?_|apply a_n|refine zO ?_|refine vZ ?_|refine cFZ ?_|(refine zGZ ?_ ?_ <;> (intro _hg; try (exfalso; omega)))|fail)) <;> (try clear zz)
  exact ⟨hk2,he,ag0,rfl,rfl⟩
 ·rw [decide_eq_false he] at hd
  rw [decide_eq_false (p:=x=y) (fun e=>he (by rw [e]))]
  (have zz:=aI @ix (aI @iy (aI @acn @hd)); repeat' (first|refine zW ?_|apply a_n|apply a_r|refine zO ?_|refine vZ ?_|refine cTZ ?_|(refine zGZ ?_ ?_ <;> (intro _hg; try (exfalso; omega)))|refine af rfl ?_|refine r1Z ?_|fail)) <;> (try clear zz)
  exact .bool _
end
end Go.Proofs.YtpfkjcjgdilkkaaGreat