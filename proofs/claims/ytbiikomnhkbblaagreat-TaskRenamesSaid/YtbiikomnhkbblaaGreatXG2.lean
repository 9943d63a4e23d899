/- Texts of this claim, one after the other: AbsB2, AbsB3, AbsB4, AbsB5, AbsBM, AbsBN, AbsB5z, AbsB6, AbsB7, AbsB8. -/
import Derived.Test.YtbiikomnhkbblaaGreatXG1
import Derived.LoopNIn
import Derived.TacticsIn
import Derived.RangeFuncLeaves
import Derived.RangeFuncRecord
import Derived.RangeFuncNested

set_option linter.unusedSimpArgs false
set_option linter.unusedVariables false
namespace Go.Abs
open Go.RowKit
def FW (r:Option Nat):Fence:={ Fence.wide with round:=r }
theorem callsIn_FW {r:Option Nat} {n:Nat} {P:Program} {f:FuncId} {args:Array Value} {w:World} {R:Ending→World→Prop} (h:Calls P f args w R):CallsIn (FW r) n P f args w R :=
  (callsIn_wide (n:=n)).2 h
theorem semAt_FW {r:Option Nat} {ρ:Operand→Value} {o:Oper} (h:∀ c,o.op ≠ .defer c):o.semAt (FW r).round ρ=execOp ρ o:=Oper.semAt_eq _ _ _ h
inductive DStep (P:Program) (N:Cfg) (fr:Option Nat) (dsts:List (Option Nat)) (o:Oper) (st:St):AV→St→Prop
  | skip (hg:gval st.T dsts o.guard=some false) (hd:dok N.n o.dst=true):DStep P N fr dsts o st (.tup []) (st.put o.dst (.tup []))
  | val (r:AV) (hfr:∀ m,fr=some m→frOk st.T o.op m=true) (hg:gval st.T dsts o.guard=some true) (hd:dok N.n o.dst=true) (h:aval P st.T st.H o.op=some r):DStep P N fr dsts o st r (st.put o.dst r)
  | call (r:AV) (f:Operand) (args:Array Operand) (argTypes:Array TypeId) (g:FuncId) (caps:List AV) (hg:gval st.T dsts o.guard=some true) (hd:dok N.n o.dst=true)
      (ho:o.op=.call { callee:=.value f,args:=args,argTypes:=argTypes }) (hf:ev st.T f=.func g caps)
      (hp:CallOk P g (args.toList.map (ev st.T) ++ caps) st.H r):DStep P N fr dsts o st r (st.put o.dst r)
  | eff (r:AV) (H':Nat→Option (List AV)) (nx':Nat) (hfr:∀ m,fr=some m→frOk st.T o.op m=true) (hg:gval st.T dsts o.guard=some true) (hd:dok N.n o.dst=true) (h:aeff P st.T st.H st.nx o.op=some (r,H',nx')) :
      DStep P N fr dsts o st r ({ st with H:=H',nx:=nx' }.put o.dst r)
theorem St.put_T {st:St} {d:Option Nat} {v:AV}:(st.put d v).T=updo st.T d v:=rfl
theorem St.put_H {st:St} {d:Option Nat} {v:AV}:(st.put d v).H=st.H:=rfl
theorem St.put_nx {st:St} {d:Option Nat} {v:AV}:(st.put d v).nx=st.nx:=rfl
theorem DStep.T {P:Program} {N:Cfg} {fr:Option Nat} {dsts:List (Option Nat)} {o:Oper} {st st':St} {r:AV} (h:DStep P N fr dsts o st r st'):st'.T=updo st.T o.dst r:=by
  cases h <;> rw [St.put_T]
theorem DStep.dok {P:Program} {N:Cfg} {fr:Option Nat} {dsts:List (Option Nat)} {o:Oper} {st st':St} {r:AV} (h:DStep P N fr dsts o st r st'):dok N.n o.dst=true:=by
  cases h <;> assumption
def wtr (ops:List Oper) (t:Nat):Option Nat:=ops.findIdx? (fun o=>o.dst == some t)
structure Txt (P:Program) (N:Cfg) (fr:Option Nat) (ops:List Oper) (s:Nat→St) (r:Nat→AV):Prop where
  step:∀ i o,ops[i]?=some o→DStep P N fr (ops.map (·.dst)) o (s i) (r i) (s (i + 1))
  ok:drawOk fr.isSome ops=true
  m0:∀ m,fr=some m→m=(s 0).nx
theorem wtr_some {ops:List Oper} {t j:Nat} (h:wtr ops t=some j):∃ o,ops[j]?=some o∧o.dst=some t:=by
  unfold wtr at h
  rw [List.findIdx?_eq_some_iff_getElem] at h
  obtain ⟨hj,h1,_⟩:=h
  exact ⟨ops[j],by simp [hj],by simpa using h1⟩
theorem wtr_none {ops:List Oper} {t j:Nat} {o:Oper} (h:wtr ops t=none) (ho:ops[j]?=some o):o.dst ≠ some t:=by
  unfold wtr at h
  rw [List.findIdx?_eq_none_iff] at h
  have:=h o (List.mem_of_getElem? ho)
  simpa using this
theorem getD_of {ops:List Oper} {j:Nat} {o:Oper} (h:ops[j]?=some o):ops.getD j default=o:=by simp [List.getD,h]
theorem drawOk_single {fr:Bool} {ops:List Oper} (h:drawOk fr ops=true) {i j:Nat} {oi oj:Oper} (hi:ops[i]?=some oi) (hj:ops[j]?=some oj) {d:Nat} (h1:oi.dst=some d) (h2:oj.dst=some d):i=j:=by
  simp only [drawOk,Bool.and_eq_true,List.all_eq_true,List.mem_range] at h
  have hlt:=fun {k o} (hk:ops[k]?=some o)=>(List.getElem?_eq_some_iff.1 hk).1
  rcases Nat.lt_trichotomy i j with hij | hij | hij
  · have:=h.2 j (hlt hj) i hij
    rw [getD_of hi,getD_of hj,h1,h2] at this
    simp at this
  · exact hij
  · have:=h.2 i (hlt hi) j hij
    rw [getD_of hi,getD_of hj,h1,h2] at this
    simp at this
theorem wtr_eq {fr:Bool} {ops:List Oper} (h:drawOk fr ops=true) {i d:Nat} {o:Oper} (hi:ops[i]?=some o) (hd:o.dst=some d):wtr ops d=some i:=by
  cases hw:wtr ops d with
  | none=>exact absurd hd (wtr_none hw hi)
  | some j =>
    obtain ⟨oj,hj,hdj⟩:=wtr_some hw
    rw [drawOk_single h hj hi hdj hd]
theorem exists_get {ops:List Oper} {i:Nat} (h:i < ops.length):∃ o,ops[i]?=some o:=⟨_,List.getElem?_eq_getElem h⟩
variable {P:Program} {N:Cfg} {fr:Option Nat} {ops:List Oper} {s:Nat→St} {r:Nat→AV}
theorem Txt.temps (h:Txt P N fr ops s r) (t:Nat):∀ i,i ≤ ops.length→(s i).T t=(match wtr ops t with | some j=>if j < i then r j else (s 0).T t | none=>(s 0).T t)
  | 0,_=>by cases wtr ops t <;> simp
  | i + 1,hi=>by
    obtain ⟨o,ho⟩:∃ o,ops[i]?=some o:=exists_get (by omega)
    have ih:=h.temps t i (by omega)
    have hT:=(h.step i o ho).T
    cases hw:wtr ops t with
    | none =>
      have:=wtr_none hw ho
      rw [hw] at ih
      rw [hT]
      cases hd:o.dst with
      | none=>exact ih
      | some d =>
        have hne:t ≠ d:=fun e=>this (by rw [hd,e])
        simp only [updo,upd,if_neg hne]; exact ih
    | some j =>
      rw [hw] at ih
      simp only at ih ⊢
      rw [hT]
      obtain ⟨oj,hj,hdj⟩:=wtr_some hw
      by_cases hji:j=i
      · subst hji
        rw [hj] at ho; cases ho
        simp [hdj,updo,upd]
      · have hnd:∀ d,o.dst=some d→t ≠ d:=fun d hd e=>by
          subst e
          exact hji (drawOk_single h.ok hj ho hdj hd)
        have:updo (s i).T o.dst (r i) t=(s i).T t:=by
          cases hd:o.dst with
          | none=>rfl
          | some d=>simp [updo,upd,hnd d hd]
        rw [this,ih]
        by_cases h1:j < i
        · rw [if_pos h1,if_pos (by omega)]
        · rw [if_neg h1,if_neg (by omega)]
theorem hupd_some {H:Nat→Option (List AV)} {b x:Nat} {cs c:List AV} (h:hupd H b cs x=some c):(x=b∧c=cs) ∨ (x ≠ b∧H x=some c):=by
  unfold hupd at h
  split at h
  · cases h; exact .inl ⟨‹_›,rfl⟩
  · exact .inr ⟨‹_›,h⟩
theorem zcells_one {z:AV} {k:Nat} (h:z.flat=true):∀ x ∈ zcells z k,x.one=true:=by
  intro x hx
  simp only [zcells,List.mem_flatten,List.mem_replicate] at hx
  obtain ⟨l,⟨_,rfl⟩,hx⟩:=hx
  exact List.all_eq_true.1 h x hx
theorem afill_one {place:Nat→Option (Nat × Nat)}:∀ (parts:List (Nat × AV)) (cells r:List AV),(∀ x ∈ cells,x.one=true)→afill place cells parts=some r→∀ x ∈ r,x.one=true
  | [],cells,r,h0,h=>by cases h; exact h0
  | (i,x) :: rest,cells,r,h0,h=>by
    simp only [afill] at h
    split at h
    · split at h
      · rename_i hc
        refine afill_one rest _ _ (fun y hy=>?_) h
        simp only [lput,List.mem_append] at hy
        rcases hy with (hy | hy) | hy
        · exact h0 y (List.mem_of_mem_take hy)
        · exact List.all_eq_true.1 hc.1 y hy
        · exact h0 y (List.mem_of_mem_drop hy)
      · cases h
    · cases h
theorem aeff_alloc_shape {T:Nat→AV} {H:Nat→Option (List AV)} {nx:Nat} {op:Op} {q:AV} {H':Nat→Option (List AV)} {nx':Nat} (hk:opk op=.alloc) (h:aeff P T H nx op=some (q,H',nx')) :
    (H'=H∧nx'=nx) ∨ ∃ cs,H'=hupd H nx cs∧nx'=nx + 1∧∀ x ∈ cs,x.one=true:=by
  cases op <;> first | (simp [opk] at hk; done) | skip
  · simp only [aeff,aalloc] at h
    split at h
    · simp only [abox] at h
      split at h <;> cases h
      rename_i hf
      exact .inr ⟨_,rfl,rfl,List.all_eq_true.1 hf⟩
    · cases h
  · simp only [aeff,abox] at h
    split at h <;> cases h
    rename_i hf
    exact .inr ⟨_,rfl,rfl,List.all_eq_true.1 hf⟩
  · simp only [aeff,abuildS] at h
    split at h
    · cases h
    · split at h
      · split at h
        · split at h <;> cases h; exact .inl ⟨rfl,rfl⟩
        · split at h
          · split at h
            · rename_i hz
              split at h
              · rename_i hfl
                cases h; exact .inr ⟨_,rfl,rfl,afill_one _ _ _ (zcells_one hz.1) hfl⟩
              · cases h
            · cases h
          · cases h
      · cases h
  · simp only [aeff,amake] at h
    split at h
    · split at h
      · split at h
        · rename_i hz
          cases h; exact .inr ⟨_,rfl,rfl,zcells_one hz.2.1⟩
        · cases h
      · cases h
    · cases h
  · rename_i c
    obtain ⟨callee,args,argTypes⟩:=c
    cases callee <;> first | (simp [opk] at hk; done) | skip
    rename_i b
    cases b <;> simp [opk] at hk
def Dom (H:Nat→Option (List AV)) (nx:Nat):Prop:=∀ b cs,H b=some cs→b < nx
theorem aeff_dom {T:Nat→AV} {H:Nat→Option (List AV)} {nx:Nat} {op:Op} {q:AV} {H':Nat→Option (List AV)} {nx':Nat} (hd:Dom H nx) (h:aeff P T H nx op=some (q,H',nx')):Dom H' nx'∧nx ≤ nx':=by
  have hup:∀ b cs,b < nx→Dom (hupd H b cs) nx:=fun b cs hb x c hx=>by
    rcases hupd_some hx with ⟨rfl,_⟩ | ⟨_,h⟩
    · exact hb
    · exact hd _ _ h
  have hnew:∀ cs,Dom (hupd H nx cs) (nx + 1):=fun cs x c hx=>by
    rcases hupd_some hx with ⟨rfl,_⟩ | ⟨_,h⟩
    · omega
    · have:=hd _ _ h; omega
  rcases aeff_kind h with hk | hk
  · rcases aeff_alloc_shape hk h with ⟨rfl,rfl⟩ | ⟨cs,rfl,rfl,_⟩
    · exact ⟨hd,Nat.le_refl _⟩
    · exact ⟨hnew cs,by omega⟩
  · unfold aeff at h
    split at h <;> first | (simp [opk] at hk; done) | skip
    · rename_i t p x
      split at h
      · rename_i H1 hs
        cases h
        unfold astore at hs
        split at hs
        · split at hs
          · rename_i cs hb
            split at hs
            · cases hs; exact ⟨hup _ _ (hd _ _ hb),Nat.le_refl _⟩
            · cases hs
          · cases hs
        · cases hs
      · cases h
    · unfold aappend at h
      split at h
      · cases h
      · split at h
        · split at h
          · cases h
          · split at h
            · split at h
              · split at h
                · cases h; exact ⟨hnew _,by omega⟩
                · cases h
              · split at h
                · rename_i cs hb
                  split at h
                  · split at h
                    · cases h; exact ⟨hup _ _ (hd _ _ hb),Nat.le_refl _⟩
                    · split at h
                      · cases h; exact ⟨hup _ _ (hd _ _ hb),Nat.le_refl _⟩
                      · split at h
                        · cases h; exact ⟨hup _ _ (hd _ _ hb),Nat.le_refl _⟩
                        · cases h
                  · cases h
                · cases h
              · cases h
            · cases h
        · cases h
    · cases h
theorem DStep.dom {dsts:List (Option Nat)} {o:Oper} {st st':St} {q:AV} (h:DStep P N fr dsts o st q st') (hd:Dom st.H st.nx):Dom st'.H st'.nx∧st.nx ≤ st'.nx:=by
  cases h with
  | eff _ H' nx' _ hg hdk h =>
    rw [St.put_H,St.put_nx]
    exact aeff_dom hd h
  | _=>rw [St.put_H,St.put_nx]; exact ⟨hd,Nat.le_refl _⟩
theorem DStep.sub {dsts:List (Option Nat)} {o:Oper} {st st':St} {q:AV} (h:DStep P N fr dsts o st q st') (hd:Dom st.H st.nx) (hk:opk o.op ≠ .write):∀ b cs,st.H b=some cs→st'.H b=some cs:=by
  cases h with
  | eff _ H' nx' _ hg hdk h =>
    rw [St.put_H]
    rcases aeff_kind h with hk' | hk'
    · rcases aeff_alloc_shape hk' h with ⟨rfl,rfl⟩ | ⟨cs,rfl,rfl,_⟩
      · exact fun _ _ h=>h
      · intro b cs hb
        have:=hd _ _ hb
        simp only [hupd]
        rw [if_neg (by omega)]; exact hb
    · exact absurd hk' hk
  | _=>rw [St.put_H]; exact fun _ _ h=>h
theorem Txt.dom (h:Txt P N fr ops s r) (h0:Dom (s 0).H (s 0).nx):∀ i,i ≤ ops.length→Dom (s i).H (s i).nx
  | 0,_=>h0
  | i + 1,hi=>by
    obtain ⟨o,ho⟩:∃ o,ops[i]?=some o:=exists_get (by omega)
    exact ((h.step i o ho).dom (h.dom h0 i (by omega))).1
theorem Txt.sub (h:Txt P N fr ops s r) (h0:Dom (s 0).H (s 0).nx) {i:Nat}:∀ j,i ≤ j→j ≤ ops.length→(∀ k o,i ≤ k→k < j→ops[k]?=some o→opk o.op ≠ .write) →
    (∀ b cs,(s i).H b=some cs→(s j).H b=some cs)∧(s i).nx ≤ (s j).nx
  | 0, hij, _, _ => by obtain rfl : i = 0 := by omega
                       exact ⟨fun _ _ h=>h,Nat.le_refl _⟩
  | j + 1,hij,hj,hk=>by
    by_cases he:i=j + 1
    · subst he; exact ⟨fun _ _ h=>h,Nat.le_refl _⟩
    · obtain ⟨o,ho⟩:∃ o,ops[j]?=some o:=exists_get (by omega)
      obtain ⟨h1,h2⟩:=h.sub h0 j (by omega) (by omega) (fun k o h1 h2 h3=>hk k o h1 (by omega) h3)
      have hd:=h.dom h0 j (by omega)
      exact ⟨fun b cs hb=>(h.step j o ho).sub hd (hk j o (by omega) (by omega) ho) b cs (h1 b cs hb),Nat.le_trans h2 ((h.step j o ho).dom hd).2⟩
theorem HeapOk.fewer {E:Env} {H H':Nat→Option (List AV)} {nx nx':Nat} {w:World} (h:HeapOk E H' nx' w) (hs:∀ b cs,H b=some cs→H' b=some cs) (hd:Dom H nx):HeapOk E H nx w :=
  ⟨fun b cs hb=>h.box b cs (hs b cs hb),hd,fun b b' cs cs' blk sz blk' sz' hb hb'=>h.apart b b' cs cs' blk sz blk' sz' (hs _ _ hb) (hs _ _ hb'),h.size,fun b cs m x hb=>h.top b cs m x (hs _ _ hb),fun b x hb hx=>h.spec b x (hs _ _ hb) hx,fun b hb=>h.nsp b (hs _ _ hb)⟩
theorem HeapOk.more {E:Env} {H H':Nat→Option (List AV)} {nx nx':Nat} {w:World} (h:HeapOk E H nx w) (hs:∀ b cs,H' b=some cs→H b=some cs ∨ FreeAt E b∧∀ x ∈ cs,x.one=true) (hd:Dom H' nx'):HeapOk E H' nx' w:=by
  have key:∀ b cs m x,H' b=some cs→E.mu b m=some x→H b=some cs:=fun b cs m x hb hm=>(hs b cs hb).resolve_right (fun hn=>by rw [hn.1.1] at hm; cases hm)
  refine ⟨fun b cs hb=>?_,hd,?_,h.size,fun b cs m x hb hm=>h.top b cs m x (key b cs m x hb hm) hm,fun b x hb hx=>?_,fun b hb=>(hs b [] hb).elim (h.nsp b) (fun h=>h.1.2.1)⟩
  · rcases hs b cs hb with h1 | h1
    · exact h.box b cs h1
    · exact .inl (h1.1.1 _)
  rotate_left
  · rcases hs b [x] hb with h1 | h1
    · exact h.spec b x h1 hx
    · rw [AV.one_special (h1.2 x (by simp))] at hx; cases hx
  · intro b b' cs cs' blk sz blk' sz' hb hb' hne h1 h2
    exact h.apart b b' cs cs' blk sz blk' sz' (key _ _ _ _ hb h1) (key _ _ _ _ hb' h2) hne h1 h2
end Go.Abs
namespace Go.Abs
open Go.RowKit
variable {P:Program} {N:Cfg} {fr:Option Nat} {ops:List Oper} {s:Nat→St} {r:Nat→AV}
theorem Txt.nx_mono (h:Txt P N fr ops s r) (h0:Dom (s 0).H (s 0).nx) {i:Nat}:∀ j,i ≤ j→j ≤ ops.length→(s i).nx ≤ (s j).nx
  | 0, hij, _ => by obtain rfl : i = 0 := by omega
                    exact Nat.le_refl _
  | j + 1,hij,hj=>by
    by_cases he:i=j + 1
    · subst he; exact Nat.le_refl _
    · obtain ⟨o,ho⟩:∃ o,ops[j]?=some o:=exists_get (by omega)
      exact Nat.le_trans (h.nx_mono h0 j (by omega) (by omega)) ((h.step j o ho).dom (h.dom h0 j (by omega))).2
theorem Txt.new (h:Txt P N fr ops s r) (h0:Dom (s 0).H (s 0).nx) {i:Nat}:∀ j,i ≤ j→j ≤ ops.length→(∀ k o,i ≤ k→k < j→ops[k]?=some o→opk o.op ≠ .write) →
    ∀ b cs,(s j).H b=some cs→(s i).H b=some cs ∨ (s i).nx ≤ b∧∀ x ∈ cs,x.one=true
  | 0, hij, _, _ => by obtain rfl : i = 0 := by omega
                       exact fun _ _ h=>.inl h
  | j + 1,hij,hj,hk=>by
    by_cases he:i=j + 1
    · subst he; exact fun _ _ h=>.inl h
    · obtain ⟨o,ho⟩:∃ o,ops[j]?=some o:=exists_get (by omega)
      intro b cs hb
      have ih:=h.new h0 j (by omega) (by omega) (fun k o h1 h2 h3=>hk k o h1 (by omega) h3) b cs
      have hmono:=h.nx_mono h0 j (show i ≤ j by omega) (by omega)
      have hst:=h.step j o ho
      generalize hsj:s (j + 1)=s' at hst hb
      generalize r j=q at hst
      cases hst with
      | eff _ H' nx' _ hg hdk h1 =>
        rw [St.put_H] at hb
        rcases aeff_kind h1 with hk' | hk'
        · rcases aeff_alloc_shape hk' h1 with ⟨rfl,_⟩ | ⟨cs',rfl,_,hone⟩
          · exact ih hb
          · rcases hupd_some hb with ⟨rfl,rfl⟩ | ⟨_,h2⟩
            · exact .inr ⟨hmono,hone⟩
            · exact ih h2
        · exact absurd hk' (hk j o (by omega) (by omega) ho)
      | skip=>exact ih hb
      | val=>exact ih hb
      | call=>exact ih hb
theorem Txt.old (h:Txt P N fr ops s r) (h0:Dom (s 0).H (s 0).nx) {m:Nat} (hm:fr=some m):∀ j,j ≤ ops.length→∀ b,b < m→(s j).H b=(s 0).H b
  | 0,_,_,_=>rfl
  | j + 1,hj,b,hb=>by
    obtain ⟨o,ho⟩:∃ o,ops[j]?=some o:=exists_get (by omega)
    rw [← h.old h0 hm j (by omega) b hb]
    have hmono:=h.nx_mono h0 j (Nat.zero_le j) (by omega)
    have hm0:=h.m0 m hm
    have hst:=h.step j o ho
    generalize s (j + 1)=s' at hst
    generalize r j=q at hst
    cases hst with
    | eff _ H' nx' hf hg hdk h1 =>
      rw [St.put_H]
      show H' b=_
      rcases aeff_kind h1 with hk' | hk'
      · rcases aeff_alloc_shape hk' h1 with ⟨rfl,_⟩ | ⟨cs',rfl,_⟩
        · rfl
        · simp only [hupd]; rw [if_neg (by omega)]
      · have hfo:=hf m hm
        generalize o.op=op at hk' hfo h1
        cases op <;> first | (simp [opk] at hk'; done) | skip
        · rename_i t p x
          simp only [frOk] at hfo
          simp only [aeff] at h1
          split at h1
          · rename_i H1 hs
            cases h1
            unfold astore at hs
            split at hs
            · rename_i b' n off hp
              rw [hp] at hfo
              simp only [decide_eq_true_eq] at hfo
              split at hs
              · split at hs
                · cases hs
                  simp only [hupd]; rw [if_neg (by omega)]
                · cases hs
              · cases hs
            · cases hs
          · cases h1
        · simp [frOk,hk'] at hfo
    | skip=>rfl
    | val=>rfl
    | call=>rfl
def TL (ops:List Oper) (T0:Nat→AV) (r:Nat→AV) (L:Array Bool) (t:Nat):AV:=match wtr ops t with
  | some j=>if L.getD j false=true then r j else T0 t
  | none=>T0 t
structure DInv (P:Program) (N:Cfg) (ops:List Oper) (s:Nat→St) (r:Nat→AV) (E₀:Env) (w₀:World) (df:List Deferred) (L:Array Bool) (a:Act) (w:World) (E:Env):Prop where
  lsz:L.size=ops.length
  dc:∀ j i,L.getD j false=true→mbit (Region.before ops.toArray) j i=true→i < ops.length→L.getD i false=true
  env:EnvOk E w
  ext:Ext E₀ w₀ E w
  asz:a.tmps.size=N.n
  tm:∀ t,Rel E w (TL ops (s 0).T r L t) (a.tmps.getD t Go.undef)
  defs:a.defers=df
  rnd:∀ l,N.rd=some l→∃ b x,E₀.lp b=some x∧E₀.sp b=some l
  flr:N.floor ≤ w₀.heap.size
  cur:∃ c,c ≤ ops.length∧(∀ k o,k < c→ops[k]?=some o→opk o.op=.write→L.getD k false=true)∧(c < ops.length→(∃ o,ops[c]?=some o∧opk o.op=.write)∧L.getD c false=false) ∧
    HeapOk E (s c).H (s c).nx w∧Fresh E (s c).nx ∧
    (∀ k o,k < c→ops[k]?=some o→L.getD k false=false→opk o.op=.alloc→(s k).nx < (s (k + 1)).nx→FreeAt E (s k).nx)
theorem getD_set (L:Array Bool) (i k:Nat) (hi:i < L.size):(L.setIfInBounds i true).getD k false=(if k=i then true else L.getD k false):=by
  by_cases h:k=i
  · subst h; simp [hi]
  · rw [if_neg h]
    simp only [Array.getD_eq_getD_getElem?]
    rw [Array.getElem?_setIfInBounds_ne (Ne.symm h)]
structure Ready (ops:List Oper) (L:Array Bool) (i:Nat) (o:Oper):Prop where
  get:ops[i]?=some o
  not:L.getD i false=false
  dir:∀ k ∈ direct o,L.getD k false=true
theorem ready_of {L:Array Bool} {i:Nat} (hsz:L.size=ops.length) (h:i ∈ Region.ready .any ops.toArray L):∃ o,Ready ops L i o:=by
  obtain ⟨h1,o,ho,hall⟩:=mem_ready.1 h
  have ho':ops[i]?=some o:=by simpa using ho
  have hlt:i < ops.length:=(List.getElem?_eq_some_iff.1 ho').1
  refine ⟨o,ho',?_,?_⟩
  · have:i < L.size:=by omega
    simp [this] at h1 ⊢; exact h1
  · intro k hk
    simp only [direct,List.mem_map,List.mem_filter] at hk
    obtain ⟨e,⟨he,hb⟩,rfl⟩:=hk
    exact hall e (by simpa using he) hb
theorem drawOk_parts {fb:Bool} (h:drawOk fb ops=true) :
    (∀ j o,ops[j]?=some o→∀ k ∈ direct o,k < j) ∧
    (∀ j o i,ops[j]?=some o→i < ops.length→mbit (Region.before ops.toArray) j i=true→∃ k ∈ direct o,k=i ∨ mbit (Region.before ops.toArray) k i=true) ∧
    (∀ i j oi oj,ops[i]?=some oi→ops[j]?=some oj→i < j→conflict fb ops oi oj=true→mbit (Region.before ops.toArray) j i=true):=by
  simp only [drawOk,Bool.and_eq_true,List.all_eq_true,List.mem_range,Bool.or_eq_true,Bool.not_eq_true',decide_eq_true_eq,List.any_eq_true,beq_iff_eq] at h
  obtain ⟨⟨⟨h1,h2⟩,h3⟩,_⟩:=h
  have hlt:=fun {k:Nat} {o:Oper} (hk:ops[k]?=some o)=>(List.getElem?_eq_some_iff.1 hk).1
  refine ⟨fun j o ho k hk=>?_,fun j o i ho hi hb=>?_,fun i j oi oj hi hj hij hc=>?_⟩
  · have:=h1 j (hlt ho) k; rw [getD_of ho] at this; exact this hk
  · have:=h2 j (hlt ho) i hi; rw [getD_of ho,hb] at this
    rcases this with h | h
    · cases h
    · exact h
  · have:=h3 j (hlt hj) i hij; rw [getD_of hi,getD_of hj,hc] at this
    rcases this with h | h
    · cases h
    · exact h
section
variable {E₀:Env} {w₀:World} {df:List Deferred} {L:Array Bool} {a:Act} {w:World} {E:Env}
theorem DInv.bits (hI:DInv P N ops s r E₀ w₀ df L a w E) {fb:Bool} (hok:drawOk fb ops=true) {i:Nat} {o:Oper} (hr:Ready ops L i o) {k:Nat} (hk:k < ops.length) (hb:mbit (Region.before ops.toArray) i k=true):L.getD k false=true:=by
  obtain ⟨_,h2,_⟩:=drawOk_parts hok
  obtain ⟨q,hq,h⟩:=h2 i o k hr.get hk hb
  rcases h with rfl | h
  · exact hr.dir _ hq
  · exact hI.dc q k (hr.dir _ hq) h hk
theorem DInv.earlier (hI:DInv P N ops s r E₀ w₀ df L a w E) {fb:Bool} (hok:drawOk fb ops=true) {i k:Nat} {o ok:Oper} (hr:Ready ops L i o) (hk:ops[k]?=some ok) (hki:k < i) (hc:conflict fb ops ok o=true):L.getD k false=true :=
  hI.bits hok hr (List.getElem?_eq_some_iff.1 hk).1 ((drawOk_parts hok).2.2 k i ok o hk hr.get hki hc)
theorem DInv.later (hI:DInv P N ops s r E₀ w₀ df L a w E) {fb:Bool} (hok:drawOk fb ops=true) {i k:Nat} {o ok:Oper} (hr:Ready ops L i o) (hk:ops[k]?=some ok) (hki:i < k) (hc:conflict fb ops o ok=true):L.getD k false=false:=by
  cases h:L.getD k false with
  | false=>rfl
  | true =>
    have:=hI.dc k i h ((drawOk_parts hok).2.2 i k o ok hr.get hk hki hc) (List.getElem?_eq_some_iff.1 hr.get).1
    rw [hr.not] at this; cases this
theorem conflict_left {fb:Bool} {x y:Oper} {d:Nat} (h:x.dst=some d) (hy:d ∈ y.looksAt ops.toArray):conflict fb ops x y=true:=by
  simp [conflict,h,hy]
theorem conflict_right {fb:Bool} {x y:Oper} {d:Nat} (h:y.dst=some d) (hx:d ∈ x.looksAt ops.toArray):conflict fb ops x y=true:=by
  simp [conflict,h,hx]
theorem conflict_wl {fb:Bool} {x y:Oper} (h:opk x.op=.write) (hy:quiet fb y.op=false):conflict fb ops x y=true:=by
  simp [conflict,h,hy]
theorem conflict_wr {fb:Bool} {x y:Oper} (h:opk y.op=.write) (hx:quiet fb x.op=false):conflict fb ops x y=true:=by
  simp [conflict,h,hx]
theorem DInv.looks (hI:DInv P N ops s r E₀ w₀ df L a w E) (ht:Txt P N fr ops s r) {i:Nat} {o:Oper} (hr:Ready ops L i o) {t:Nat} (hl:t ∈ o.looksAt ops.toArray):TL ops (s 0).T r L t=(s i).T t:=by
  have hi:i < ops.length:=(List.getElem?_eq_some_iff.1 hr.get).1
  rw [ht.temps t i (by omega)]
  unfold TL
  cases hw:wtr ops t with
  | none=>rfl
  | some j =>
    obtain ⟨oj,hj,hdj⟩:=wtr_some hw
    simp only
    rcases Nat.lt_trichotomy j i with h | h | h
    · rw [if_pos (hI.earlier ht.ok hr hj h (conflict_left hdj hl)),if_pos h]
    · subst h
      rw [if_neg (by rw [hr.not]; simp),if_neg (by omega)]
    · rw [if_neg (by rw [hI.later ht.ok hr hj h (conflict_right hdj hl)]; simp),if_neg (by omega)]
theorem DInv.operands (hI:DInv P N ops s r E₀ w₀ df L a w E) (ht:Txt P N fr ops s r) {i:Nat} {o:Oper} (hr:Ready ops L i o):∀ x ∈ o.op.operands,ev (TL ops (s 0).T r L) x=ev (s i).T x:=by
  intro x hx
  refine ev_congr fun t e=>?_
  subst e
  refine hI.looks ht hr ?_
  unfold Oper.looksAt
  exact List.mem_append_left _ (List.mem_filterMap.2 ⟨.tmp t,by simpa using hx,rfl⟩)
theorem DInv.guard (hI:DInv P N ops s r E₀ w₀ df L a w E) (ht:Txt P N fr ops s r) {i:Nat} {o:Oper} (hr:Ready ops L i o) {b:Bool} (hg:gval (s i).T (ops.map (·.dst)) o.guard=some b):Region.wanted o (yielded ops.toArray a.tmps)=b:=by
  refine gval_sound (E:=E) (w:=w) (T:=(s i).T) (fun t ⟨j,want,hgj,hd⟩=>?_) hg
  have hl:t ∈ o.looksAt ops.toArray:=by
    unfold Oper.looksAt
    refine List.mem_append_right _ ?_
    rw [hgj]
    simp only [List.getElem?_toArray,hd]
    simp
  rw [← hI.looks ht hr hl]
  exact hI.tm t
theorem TL_next {fb:Bool} (hok:drawOk fb ops=true) (hsz:L.size=ops.length) {i:Nat} {o:Oper} (hr:Ready ops L i o) (T0:Nat→AV):TL ops T0 r (L.setIfInBounds i true)=updo (TL ops T0 r L) o.dst (r i):=by
  have hi:i < ops.length:=(List.getElem?_eq_some_iff.1 hr.get).1
  funext t
  have hset:=getD_set L i
  by_cases hd:o.dst=some t
  · have hw:=wtr_eq hok hr.get hd
    simp [TL,hw,updo,upd,hd,hsz,hi]
  · have e2:updo (TL ops T0 r L) o.dst (r i) t=TL ops T0 r L t:=by
      cases ho:o.dst with
      | none=>rfl
      | some d =>
        have:t ≠ d:=fun e=>hd (by rw [ho,e])
        simp [updo,upd,this]
    rw [e2]
    unfold TL
    cases hw:wtr ops t with
    | none=>rfl
    | some j =>
      obtain ⟨oj,hj,hdj⟩:=wtr_some hw
      have hji:j ≠ i:=fun e=>by subst e; rw [hr.get] at hj; cases hj; exact hd hdj
      simp only
      rw [hset j (by omega),if_neg hji]
theorem DInv.next (hI:DInv P N ops s r E₀ w₀ df L a w E) (ht:Txt P N fr ops s r) {i:Nat} {o:Oper} (hr:Ready ops L i o) {v:Value} {w':World} {E':Env} (he:Ext E w E' w') (hE':EnvOk E' w') (hv:Rel E' w' (r i) v) (hd:dok N.n o.dst=true)
    (hcur:∃ c,c ≤ ops.length∧(∀ k o,k < c→ops[k]?=some o→opk o.op=.write→(L.setIfInBounds i true).getD k false=true)∧(c < ops.length→(∃ o,ops[c]?=some o∧opk o.op=.write)∧(L.setIfInBounds i true).getD c false=false) ∧
      HeapOk E' (s c).H (s c).nx w'∧Fresh E' (s c).nx ∧
      (∀ k o,k < c→ops[k]?=some o→(L.setIfInBounds i true).getD k false=false→opk o.op=.alloc→(s k).nx < (s (k + 1)).nx→FreeAt E' (s k).nx)) :
    DInv P N ops s r E₀ w₀ df (L.setIfInBounds i true) (a.put o.dst v) w' E':=by
  have hi:i < ops.length:=(List.getElem?_eq_some_iff.1 hr.get).1
  have hset:=fun k=>getD_set L i k (by rw [hI.lsz]; exact hi)
  refine ⟨by simp [hI.lsz],?_,hE',hI.ext.trans he,?_,?_,?_,hI.rnd,hI.flr,hcur⟩
  · intro j k hj hb hk
    rw [hset] at hj ⊢
    by_cases hki:k=i
    · rw [if_pos hki]
    · rw [if_neg hki]
      by_cases hji:j=i
      · subst hji; exact hI.bits ht.ok hr hk hb
      · rw [if_neg hji] at hj; exact hI.dc j k hj hb hk
  · cases ho:o.dst with
    | none=>exact hI.asz
    | some d=>simp [Act.put,hI.asz]
  · intro t
    rw [TL_next ht.ok hI.lsz hr]
    cases ho:o.dst with
    | none=>exact (hI.tm t).ext he
    | some d =>
      rw [ho] at hd
      simp only [dok,decide_eq_true_eq] at hd
      simp only [updo,upd,Act.put]
      by_cases hdt:t=d
      · subst hdt
        rw [if_pos rfl]
        have:t < a.tmps.size:=by rw [hI.asz]; exact hd
        simp [this]; exact hv
      · rw [if_neg hdt]
        have:=(hI.tm t).ext he
        have e:(a.tmps.setIfInBounds d v).getD t Go.undef=a.tmps.getD t Go.undef:=by
          simp only [Array.getD_eq_getD_getElem?]
          rw [Array.getElem?_setIfInBounds_ne (Ne.symm hdt)]
        rw [e]; exact this
  · cases ho:o.dst <;> exact hI.defs
theorem DInv.stay (hI:DInv P N ops s r E₀ w₀ df L a w E) (ht:Txt P N fr ops s r) {i:Nat} {o:Oper} (hr:Ready ops L i o) (hk:opk o.op ≠ .write) {v:Value} {w':World} {E':Env} (he:Ext E w E' w') (hE':EnvOk E' w') (hv:Rel E' w' (r i) v) (hd:dok N.n o.dst=true)
    (hmu:∀ b m,(b=(s i).nx∧opk o.op=.alloc∧(s i).nx < (s (i + 1)).nx) ∨ E'.mu b m=E.mu b m) (hsp:E'.sp=E.sp) (hlp:E'.lp=E.lp)
    (h0:Dom (s 0).H (s 0).nx) {c:Nat} (hc:c ≤ ops.length) (c1:∀ k o,k < c→ops[k]?=some o→opk o.op=.write→L.getD k false=true) (c2:c < ops.length→(∃ o,ops[c]?=some o∧opk o.op=.write)∧L.getD c false=false)
    (c4:Fresh E (s c).nx)
    (c5:∀ k o,k < c→ops[k]?=some o→L.getD k false=false→opk o.op=.alloc→(s k).nx < (s (k + 1)).nx→FreeAt E (s k).nx)
    (hheap:HeapOk E' (s c).H (s c).nx w') :
    DInv P N ops s r E₀ w₀ df (L.setIfInBounds i true) (a.put o.dst v) w' E':=by
  have hi:i < ops.length:=(List.getElem?_eq_some_iff.1 hr.get).1
  have hset:=fun k=>getD_set L i k (by rw [hI.lsz]; exact hi)
  have hic:i ≠ c:=by
    intro e; subst e
    obtain ⟨⟨o',ho',hw⟩,_⟩:=c2 hi
    rw [hr.get] at ho'; cases ho'; exact hk hw
  have hpos:quiet fr.isSome o.op=false→i < c:=by
    intro hp
    rcases Nat.lt_or_ge i c with h | h
    · exact h
    · have hci:c < i:=by omega
      obtain ⟨⟨oc,hoc,hw⟩,hn⟩:=c2 (by omega)
      have:=hI.earlier ht.ok hr hoc hci (conflict_wl hw hp)
      rw [hn] at this; cases this
  refine hI.next ht hr he hE' hv hd ⟨c,hc,?_,?_,hheap,?_,?_⟩
  · intro k o' h1 h2 h3
    rw [hset]; split
    · rfl
    · exact c1 k o' h1 h2 h3
  · intro h1
    obtain ⟨h2,h3⟩:=c2 h1
    refine ⟨h2,?_⟩
    rw [hset,if_neg (Ne.symm hic)]; exact h3
  · intro b hb
    refine ⟨fun m=>?_,by rw [hsp]; exact (c4 b hb).2.1,by rw [hlp]; exact (c4 b hb).2.2⟩
    rcases hmu b m with ⟨rfl,hal,hlt⟩ | h
    · have hp:=hpos (quiet_alloc hal)
      have:=ht.nx_mono h0 c (show i + 1 ≤ c by omega) hc
      omega
    · rw [h]; exact (c4 b hb).1 m
  · intro k o' h1 h2 h3 h4 h5
    rw [hset] at h3
    split at h3
    · cases h3
    · rename_i hki
      have c5k:=c5 k o' h1 h2 h3 h4 h5
      refine ⟨fun m=>?_,by rw [hsp]; exact c5k.2.1,by rw [hlp]; exact c5k.2.2⟩
      rcases hmu (s k).nx m with ⟨hb,hal,hlt⟩ | h
      · exfalso
        have hp:=hpos (quiet_alloc hal)
        rcases Nat.lt_or_ge k i with hlt' | hge
        · have:=ht.nx_mono h0 i (show k + 1 ≤ i by omega) (by omega); omega
        · have:=ht.nx_mono h0 k (show i + 1 ≤ k by omega) (by omega); omega
      · rw [h]; exact c5k.1 m
end
end Go.Abs
namespace Go.Abs
open Go.RowKit
variable {P:Program} {N:Cfg} {fr:Option Nat} {ops:List Oper} {s:Nat→St} {r:Nat→AV}
theorem run_callValue {o:Oper} {f:Operand} {args:Array Operand} {argTypes:Array TypeId} {a:Act} {w:World} {g:FuncId} {cv:Array Value} (ho:o.op=.call { callee:=.value f,args:=args,argTypes:=argTypes })
    (hf:a.eval f=.func (.func g) #[] cv) (hc:cok P g=true):(execOp a.eval o).run P w=.ok (.enter g (args.map a.eval ++ cv)) w:=by
  unfold execOp
  rw [ho]
  simp only [resolve,hf,Deferred.ofValue,invoke,Sem.run_bind,Sem.run_pure,Result.andThen_ok,Array.empty_append]
  exact run_callFunc hc _ w
theorem aval_nodefer {T:Nat→AV} {H:Nat→Option (List AV)} {op:Op} {q:AV} (h:aval P T H op=some q):∀ c,op ≠ .defer c:=by
  intro c e; subst e; cases h
theorem aeff_nodefer {T:Nat→AV} {H:Nat→Option (List AV)} {nx:Nat} {op:Op} {q:AV × (Nat→Option (List AV)) × Nat} (h:aeff P T H nx op=some q):∀ c,op ≠ .defer c:=by
  intro c e; subst e; cases h
section
variable {E₀:Env} {w₀:World} {df:List Deferred} {L:Array Bool} {a:Act} {w:World} {E:Env}
theorem DInv.move (hI:DInv P N ops s r E₀ w₀ df L a w E) (ht:Txt P N fr ops s r) (h0:Dom (s 0).H (s 0).nx) {i:Nat} {o:Oper} (hr:Ready ops L i o) (hk:opk o.op=.write) :
    HeapOk E (s i).H (s i).nx w∧Fresh E (s i).nx ∧
    ∀ (v:Value) (w':World) (E':Env),Ext E w E' w'→EnvOk E' w'→Rel E' w' (r i) v→dok N.n o.dst=true→HeapOk E' (s (i + 1)).H (s (i + 1)).nx w'→Fresh E' (s (i + 1)).nx →
      DInv P N ops s r E₀ w₀ df (L.setIfInBounds i true) (a.put o.dst v) w' E':=by
  have hi:i < ops.length:=(List.getElem?_eq_some_iff.1 hr.get).1
  have hset:=fun k=>getD_set L i k (by rw [hI.lsz]; exact hi)
  obtain ⟨c,hc,c1,c2,c3,c4,c5⟩:=hI.cur
  have hkp:quiet fr.isSome o.op=false:=quiet_write hk
  have hci:c=i:=by
    rcases Nat.lt_trichotomy i c with h | h | h
    · have:=c1 i o h hr.get hk; rw [hr.not] at this; cases this
    · exact h.symm
    · obtain ⟨⟨oc,hoc,hw⟩,hn⟩:=c2 (by omega)
      have:=hI.earlier ht.ok hr hoc h (conflict_wl hw hkp)
      rw [hn] at this; cases this
  subst hci
  refine ⟨c3,c4,fun v w' E' he hE' hv hd hH hfr=>hI.next ht hr he hE' hv hd ?_⟩
  have hex:∃ c',c < c'∧c' ≤ ops.length∧(∀ k o,c < k→k < c'→ops[k]?=some o→opk o.op ≠ .write)∧(c' < ops.length→∃ o,ops[c']?=some o∧opk o.op=.write):=by
    have:∀ m,c < m→m ≤ ops.length→(∃ c',c < c'∧c' ≤ ops.length∧(∀ k o,c < k→k < c'→ops[k]?=some o→opk o.op ≠ .write)∧(c' < ops.length→∃ o,ops[c']?=some o∧opk o.op=.write)) ∨ (∀ k o,c < k→k < m→ops[k]?=some o→opk o.op ≠ .write):=by
      intro m
      induction m with
      | zero=>intro h; omega
      | succ m ih =>
        intro h1 h2
        by_cases hcm:c=m
        · subst hcm; exact .inr (fun k o h1 h2=>by omega)
        · rcases ih (by omega) (by omega) with h | h
          · exact .inl h
          · obtain ⟨om,hom⟩:=exists_get (ops:=ops) (i:=m) (by omega)
            by_cases hw:opk om.op=.write
            · exact .inl ⟨m,by omega,by omega,h,fun _=>⟨om,hom,hw⟩⟩
            · refine .inr (fun k o h3 h4 h5=>?_)
              by_cases hkm:k=m
              · subst hkm; rw [hom] at h5; cases h5; exact hw
              · exact h k o h3 (by omega) h5
    rcases this ops.length hi (Nat.le_refl _) with h | h
    · exact h
    · exact ⟨ops.length,hi,Nat.le_refl _,h,fun h=>by omega⟩
  obtain ⟨c',hcc,hcl,hno,hyes⟩:=hex
  have hno':∀ k o,c + 1 ≤ k→k < c'→ops[k]?=some o→opk o.op ≠ .write:=fun k o h1 h2 h3=>hno k o (by omega) h2 h3
  have hmono:=ht.nx_mono h0 c' (show c + 1 ≤ c' by omega) hcl
  refine ⟨c',hcl,?_,?_,?_,?_,?_⟩
  · intro k o' h1 h2 h3
    rw [hset]; split
    · rfl
    · rename_i hne
      rcases Nat.lt_or_ge k c with h | h
      · exact c1 k o' h h2 h3
      · exact absurd h3 (hno k o' (by omega) h1 h2)
  · intro h
    obtain ⟨o',ho',hw'⟩:=hyes h
    refine ⟨⟨o',ho',hw'⟩,?_⟩
    rw [hset,if_neg (by omega)]
    exact hI.later ht.ok hr ho' hcc (conflict_wl hk (quiet_write hw'))
  · exact hH.more (fun b cs hb=>(ht.new h0 c' (show c + 1 ≤ c' by omega) hcl hno' b cs hb).imp id (fun h=>⟨hfr b h.1,h.2⟩)) (ht.dom h0 c' hcl)
  · exact hfr.le (by omega)
  · intro k o' h1 h2 h3 h4 h5
    rw [hset] at h3
    split at h3
    · cases h3
    · rename_i hne
      rcases Nat.lt_or_ge k c with h | h
      · have:=hI.earlier ht.ok hr h2 h (conflict_wr hk (quiet_alloc h4))
        rw [h3] at this; cases this
      · exact hfr _ (ht.nx_mono h0 k (show c + 1 ≤ k by omega) (by have:=(List.getElem?_eq_some_iff.1 h2).1; omega))
theorem DInv.step {rr:Option Nat} {Q:Exit→Act→World→Prop} {K:Act→World→Prop} (hI:DInv P N ops s r E₀ w₀ df L a w E) (ht:Txt P N fr ops s r) (h0:Dom (s 0).H (s 0).nx) {i:Nat} {o:Oper} (hr:Ready ops L i o)
    (hK:∀ a' w' E',DInv P N ops s r E₀ w₀ df (L.setIfInBounds i true) a' w' E'→K a' w'):wpOpIn (FW rr) 0 P ops.toArray Q i K a w:=by
  have hi:i < ops.length:=(List.getElem?_eq_some_iff.1 hr.get).1
  have hgeti:(ops.toArray)[i]?=some o:=by simpa using hr.get
  unfold wpOpIn
  rw [hgeti]
  simp only
  obtain ⟨c,hc,c1,c2,c3,c4,c5⟩:=hI.cur
  have touch:∀ cc,cc ≤ ops.length→HeapOk E (s cc).H (s cc).nx w→(i < cc∧∀ k ok,i ≤ k→k < cc→ops[k]?=some ok→opk ok.op ≠ .write)→HeapOk E (s i).H (s i).nx w:=by
    intro cc hcc hh ⟨h1,h2⟩
    exact hh.fewer (ht.sub h0 cc (by omega) hcc h2).1 (ht.dom h0 i (by omega))
  have pos:quiet fr.isSome o.op=false→opk o.op ≠ .write→i < c∧∀ k ok,i ≤ k→k < c→ops[k]?=some ok→opk ok.op ≠ .write:=by
    intro hp hk
    have hlt:i < c:=by
      rcases Nat.lt_trichotomy i c with h | h | h
      · exact h
      · subst h
        obtain ⟨⟨oc,hoc,hw⟩,hn⟩:=c2 hi
        rw [hr.get] at hoc; cases hoc; exact absurd hw hk
      · obtain ⟨⟨oc,hoc,hw⟩,hn⟩:=c2 (by omega)
        have:=hI.earlier ht.ok hr hoc h (conflict_wl hw hp)
        rw [hn] at this; cases this
    refine ⟨hlt,fun k ok hik hkc hok hw=>?_⟩
    by_cases he:k=i
    · subst he; rw [hr.get] at hok; cases hok; exact hk hw
    · have h1:=c1 k ok hkc hok hw
      have h2:=hI.later ht.ok hr hok (by omega) (conflict_wr hw hp)
      rw [h2] at h1; cases h1
  have htm:=hI.tm
  have hops:=hI.operands ht hr
  have hoprel:∀ x ∈ o.op.operands,Rel E w (ev (s i).T x) (a.eval x):=fun x hx=>by rw [← hops x hx]; exact ev_rel htm x
  have hst:=ht.step i o hr.get
  generalize hsi:s (i + 1)=s' at hst
  generalize hri:r i=q at hst
  have same:∀ (v:Value),Rel E w q v→dok N.n o.dst=true→(s'.H=(s i).H∧s'.nx=(s i).nx)→DInv P N ops s r E₀ w₀ df (L.setIfInBounds i true) (a.put o.dst v) w E:=by
    intro v hv hd ⟨hsH,hsn⟩
    subst hri hsi
    by_cases hk:opk o.op=.write
    · obtain ⟨h1,h2,h3⟩:=hI.move ht h0 hr hk
      exact h3 v w E (Ext.refl _ _) hI.env hv hd (by rw [hsH,hsn]; exact h1) (by rw [hsn]; exact h2)
    · exact hI.stay ht hr hk (Ext.refl _ _) hI.env hv hd (fun _ _=>.inr rfl) rfl rfl h0 hc c1 c2 c4 c5 c3
  cases hst with
  | skip hg hd =>
    rw [hI.guard ht hr hg]
    simp only [Bool.false_eq_true,if_false]
    exact ⟨fun _ _=>trivial,hK _ _ _ (same Go.undef (undef_rel _ _) hd ⟨rfl,rfl⟩)⟩
  | val _ hff hg hd h =>
    rw [hI.guard ht hr hg]
    simp only [if_true]
    have hnd:=aval_nodefer h
    have hcong:=aval_congr (P:=P) (T:=TL ops (s 0).T r L) (T':=(s i).T) (H:=(s i).H) hops
    obtain ⟨v,h1,h2⟩:∃ v,(execOp a.eval o).run P w=.ok (.value v) w∧Rel E w q v:=by
      rcases aval_kind h with hk | hk
      · rw [← hcong,aval_pure (H':=(s c).H) hk] at h
        exact aval_sound c3 htm h
      · cases hq:quiet fr.isSome o.op with
        | false =>
          rw [← hcong] at h
          exact aval_sound (touch c hc c3 (pos hq (by rw [hk]; decide))) htm h
        | true =>
          have hl:isLoad o.op=true∧fr.isSome=true:=by
            simp only [quiet,hk,Bool.or_eq_true,Bool.and_eq_true] at hq
            rcases hq with hq | hq
            · exact absurd hq (by decide)
            · exact hq.symm
          obtain ⟨m,hm⟩:=Option.isSome_iff_exists.1 hl.2
          have hfo:=hff m hm
          have hH:aval P (s i).T (s i).H o.op=aval P (s i).T (s c).H o.op:=by
            generalize o.op=op at hl hfo
            cases op <;> first | (simp [isLoad] at hl; done) | skip
            rename_i t p
            simp only [aval]
            refine aload_old (fun b n off hp=>?_)
            simp only [frOk,hp,decide_eq_true_eq] at hfo
            rw [ht.old h0 hm i (by omega) b hfo,ht.old h0 hm c hc b hfo]
          rw [hH,← aval_congr (P:=P) (T:=TL ops (s 0).T r L) (T':=(s i).T) (H:=(s c).H) hops] at h
          exact aval_sound c3 htm h
    refine ⟨fun _ _=>trivial,?_⟩
    rw [semAt_FW hnd,h1,Oper.uponIn_value]
    exact hK _ _ _ (same v h2 hd ⟨rfl,rfl⟩)
  | call _ f args argTypes g caps hg hd ho hf hp =>
    rw [hI.guard ht hr hg]
    simp only [if_true]
    have hk:opk o.op=.touch:=by rw [ho]; rfl
    have hkw:opk o.op ≠ .write:=by rw [hk]; decide
    have hh:=touch c hc c3 (pos (quiet_of (by rw [hk]; decide) (by rw [ho]; rfl)) hkw)
    have hfr:=hoprel f (by rw [ho]; simp [Op.operands,Call.operands])
    rw [hf] at hfr
    generalize hev:a.eval f=vf at hfr
    cases hfr with
    | func _ _ cv hl hcr =>
    have hargs:RelL E w (args.toList.map (ev (s i).T) ++ caps) (args.toList.map a.eval ++ cv):=by
      refine ⟨by simp [hl],fun j x y hx hy=>?_⟩
      rw [List.getElem?_append] at hx hy
      simp only [List.length_map] at hx hy
      split at hx
      · rename_i hlt
        rw [if_pos hlt] at hy
        rw [List.getElem?_map] at hx hy
        cases hj:args.toList[j]? with
        | none=>rw [hj] at hx; cases hx
        | some z =>
          rw [hj] at hx hy; cases hx; cases hy
          exact hoprel z (by rw [ho]; simp only [Op.operands,Call.operands]; exact Array.mem_append.2 (.inr (by simpa using List.mem_of_getElem? hj)))
      · rename_i hlt
        rw [if_neg hlt] at hy
        exact hcr _ _ _ hx hy
    have hcalls:=hp.2 E _ w _ hI.env hh hargs
    refine ⟨fun _ _=>trivial,?_⟩
    rw [semAt_FW (by rw [ho]; intro c; simp),run_callValue ho hev hp.1,Oper.uponIn_enter]
    refine ⟨(fun h=>by cases h),?_⟩
    have harr:args.map a.eval ++ cv.toArray=(args.toList.map a.eval ++ cv).toArray:=by
      rw [arr_map]; simp
    rw [harr]
    refine (callsIn_FW hcalls).mono ?_
    rintro e w' ⟨v,E',rfl,hb,he,hE',hmu,himm,hsp,hlp,hrel⟩
    refine hK _ _ E' ?_
    subst hri
    exact hI.stay ht hr hkw he hE' hrel hd (fun b m=>.inr (by rw [hmu])) hsp hlp h0 hc c1 c2 c4 c5 (c3.below he hb hmu himm hsp)
  | eff _ H' nx' hff hg hd h =>
    rw [hI.guard ht hr hg]
    simp only [if_true]
    have hnd:=aeff_nodefer h
    have hcong:=aeff_congr (P:=P) (T:=TL ops (s 0).T r L) (T':=(s i).T) (H:=(s i).H) (nx:=(s i).nx) hops
    rcases aeff_kind h with hk | hk
    · have hkw:opk o.op ≠ .write:=by rw [hk]; decide
      have hkp:quiet fr.isSome o.op=false:=quiet_alloc hk
      obtain ⟨sm,hsm,hrun⟩:=aeff_alloc (E:=E) (w:=w) hk hoprel h
      refine ⟨fun _ _=>trivial,?_⟩
      rw [semAt_FW hnd,hsm]
      rcases hrun with ⟨rfl,rfl,v,ob,h1,h2⟩ | ⟨cells,vals,ty,v,rfl,rfl,h1,h2,h3,h4⟩
      · have e:(do pure (Next.value (← sm)):Sem Next).run P w=.ok (.value v) (w.alloc ob):=by
          simp only [Sem.run_bind,h1,Result.andThen_ok]; rfl
        rw [e,Oper.uponIn_value]
        refine hK _ _ E ?_
        subst hri
        exact hI.stay ht hr hkw (Ext.alloc E w ob hI.env) (hI.env.alloc c3.size ob) (h2 _ _) hd (fun b m=>.inr rfl) rfl rfl h0 hc c1 c2 c4 c5 (c3.alloc hI.env ob)
      · have e:(do pure (Next.value (← sm)):Sem Next).run P w=.ok (.value v) (w.alloc (.cells vals ty)):=by
          simp only [Sem.run_bind,h1,Result.andThen_ok]; rfl
        rw [e,Oper.uponIn_value]
        have hposc:=pos hkp hkw
        have hlt:(s i).nx < (s (i + 1)).nx:=by rw [hsi]; exact Nat.lt_succ_self _
        have hfresh:=c5 i o hposc.1 hr.get hr.not hk hlt
        have hnew:∀ cc,i < cc→cc ≤ ops.length→(∀ k ok,i ≤ k→k < cc→ops[k]?=some ok→opk ok.op ≠ .write)→(s cc).H (s i).nx=some cells∧(s i).nx < (s cc).nx:=by
          intro cc h1 h2 h3
          obtain ⟨k1,k2⟩:=ht.sub h0 cc (show i + 1 ≤ cc by omega) h2 (fun k ok hk1 hk2=>h3 k ok (by omega) hk2)
          refine ⟨k1 _ _ ?_,by omega⟩
          rw [hsi]; simp [hupd,St.put]
        obtain ⟨hnc,hnc2⟩:=hnew c hposc.1 hc hposc.2
        obtain ⟨E',he,hE',hH,hmu,_,hmo,hms,hml⟩:=c3.place hI.env hnc2 (Nat.le_refl _) (cs':=cells) (fun m x hm=>by rw [hfresh.1] at hm; cases hm) hfresh.2.1 vals ty h2 h3
        refine hK _ _ E' ?_
        subst hri
        refine hI.stay ht hr hkw he hE' (h4 E' _ hmu) hd (fun b m=>?_) hms hml h0 hc c1 c2 c4 c5 (by rw [hupd_self hnc] at hH; exact hH)
        by_cases hb:b=(s i).nx
        · exact .inl ⟨hb,hk,hlt⟩
        · exact .inr (hmo b m hb)
    · obtain ⟨hh,hfr,hmv⟩:=hI.move ht h0 hr hk
      rw [← hcong] at h
      obtain ⟨n,v,w',E',h1,h2,h3,h4,h5,h6,h7⟩:=aeff_sound hI.env hh hfr htm h
      refine ⟨fun _ _=>trivial,?_⟩
      rw [semAt_FW hnd,h1]
      have hfin:K (a.put o.dst v) w':=by
        refine hK _ _ E' ?_
        subst hri
        exact hmv v w' E' h3 h4 h6 hd (by rw [hsi]; exact h5) (by rw [hsi]; exact h7)
      rcases h2 with rfl | ⟨rfl,rfl⟩
      · rw [Oper.uponIn_value]; exact hfin
      · rw [Oper.uponIn_skip]; exact hfin
def left (n:Nat) (L:Array Bool):Nat:=(List.range n).countP (fun k=>L.getD k false == false)
theorem left_set (L:Array Bool) (i n:Nat) (hi:i < n) (hs:L.size=n) (hn:L.getD i false=false):left n (L.setIfInBounds i true) < left n L:=by
  have key:∀ (l:List Nat),i ∈ l→l.countP (fun k=>(L.setIfInBounds i true).getD k false == false) < l.countP (fun k=>L.getD k false == false)∧True:=by
    have le:∀ (l:List Nat),l.countP (fun k=>(L.setIfInBounds i true).getD k false == false) ≤ l.countP (fun k=>L.getD k false == false):=by
      intro l
      refine List.countP_mono_left (fun k _ h=>?_)
      rw [getD_set L i k (by omega)] at h
      split at h
      · cases h
      · exact h
    intro l
    induction l with
    | nil=>intro h; cases h
    | cons x l ih =>
      intro h
      refine ⟨?_,trivial⟩
      rw [List.countP_cons,List.countP_cons,getD_set L i x (by omega)]
      by_cases hx:x=i
      · subst hx
        have:=le l
        rw [if_pos rfl,hn,if_neg (by decide),if_pos (by decide)]; omega
      · rw [if_neg hx]
        rcases List.mem_cons.1 h with rfl | h
        · exact absurd rfl hx
        · have:=(ih h).1
          omega
  exact (key _ (List.mem_range.2 hi)).1
theorem least (L:Array Bool):∀ n,(∀ k,k < n→L.getD k false=true) ∨ ∃ k,k < n∧L.getD k false=false∧∀ j,j < k→L.getD j false=true
  | 0=>.inl (fun k h=>by omega)
  | n + 1=>by
    rcases least L n with h | ⟨k,h1,h2⟩
    · cases hn:L.getD n false with
      | true=>exact .inl (fun k hk=>by
          by_cases e:k=n
          · subst e; exact hn
          · exact h k (by omega))
      | false=>exact .inr ⟨n,by omega,hn,h⟩
    · exact .inr ⟨k,by omega,h2⟩
theorem DInv.some_ready (hI:DInv P N ops s r E₀ w₀ df L a w E) (ht:Txt P N fr ops s r) (h:Region.ready .any ops.toArray L=[]):∀ k,k < ops.length→L.getD k false=true:=by
  rcases least L ops.length with h1 | ⟨k,hk,hn,hall⟩
  · exact h1
  · exfalso
    obtain ⟨o,ho⟩:=exists_get hk
    have:k ∈ Region.ready .any ops.toArray L:=by
      refine mem_ready.2 ⟨?_,o,by simpa using ho,fun e he hb=>hall _ ?_⟩
      · have:k < L.size:=by rw [hI.lsz]; exact hk
        simp [this] at hn ⊢; exact hn
      · refine (drawOk_parts ht.ok).1 k o ho e.on ?_
        simp only [direct,List.mem_map,List.mem_filter]
        exact ⟨e,⟨by simpa using he,hb⟩,rfl⟩
    rw [h] at this; cases this
theorem DInv.final (hI:DInv P N ops s r E₀ w₀ df L a w E) (ht:Txt P N fr ops s r) (hall:∀ k,k < ops.length→L.getD k false=true) (hdf:Marks E₀ N w₀ df):Sim E N (s ops.length) a w:=by
  obtain ⟨c,hc,c1,c2,c3,c4,c5⟩:=hI.cur
  have hcl:c=ops.length:=by
    rcases Nat.lt_or_ge c ops.length with h | h
    · have:=(c2 h).2
      rw [hall c h] at this; cases this
    · omega
  subst hcl
  refine ⟨hI.env,c3,c4,fun l hl=>let ⟨b,x,h1,h2⟩:=hI.rnd l hl; ⟨b,x,hI.ext.lp _ _ h1,hI.ext.sp _ _ h2⟩,Nat.le_trans hI.flr hI.ext.size,hI.asz,fun t=>?_,by rw [hI.defs]; exact hdf.ext hI.ext⟩
  · have:=hI.tm t
    rw [ht.temps t _ (Nat.le_refl _)]
    unfold TL at this
    cases hw:wtr ops t with
    | none=>rw [hw] at this; exact this
    | some j =>
      rw [hw] at this
      obtain ⟨oj,hj,_⟩:=wtr_some hw
      have hlt:=(List.getElem?_eq_some_iff.1 hj).1
      simp only [hall j hlt,if_true] at this
      simp only [if_pos hlt]; exact this
theorem any_order {rr:Option Nat} {Q:Exit→Act→World→Prop} (ht:Txt P N fr ops s r) (h0:Dom (s 0).H (s 0).nx) (hdf:Marks E₀ N w₀ df)
    (hQ:∀ E' a' w',Ext E₀ w₀ E' w'→Sim E' N (s ops.length) a' w'→Q .normal a' w') :
    ∀ (fuel:Nat) (L:Array Bool) (a:Act) (w:World) (E:Env),DInv P N ops s r E₀ w₀ df L a w E→left ops.length L ≤ fuel→wpAnyIn (FW rr) 0 P .any ops.toArray Q fuel L a w
  | 0,L,a,w,E,hI,hl=>by
    have hall:∀ k,k < ops.length→L.getD k false=true:=by
      rcases least L ops.length with h1 | ⟨k,hk,hn,hall⟩
      · exact h1
      · exfalso
        have:left ops.length (L.setIfInBounds k true) < left ops.length L:=left_set L k _ hk hI.lsz hn
        omega
    have hr:Region.ready .any ops.toArray L=[]:=by
      refine List.eq_nil_iff_forall_not_mem.2 (fun i hi=>?_)
      obtain ⟨o,ho⟩:=ready_of hI.lsz hi
      have:=hall i (List.getElem?_eq_some_iff.1 ho.get).1
      rw [ho.not] at this; cases this
    exact ⟨hr,hQ E a w hI.ext (hI.final ht hall hdf)⟩
  | fuel + 1,L,a,w,E,hI,hl=>by
    refine ⟨fun hr=>hQ E a w hI.ext (hI.final ht (hI.some_ready ht hr) hdf),fun i hi=>?_⟩
    obtain ⟨o,ho⟩:=ready_of hI.lsz hi
    refine hI.step ht h0 ho (fun a' w' E' hI'=>any_order ht h0 hdf hQ fuel _ a' w' E' hI' ?_)
    have:=left_set L i ops.length (List.getElem?_eq_some_iff.1 ho.get).1 hI.lsz ho.not
    omega
theorem wp_draw {rr:Option Nat} {Q:Exit→Act→World→Prop} {rid:Nat} (hm:P.follows .mixedOrders=true) (ht:Txt P N fr ops s r) (hS:Sim E₀ N (s 0) a w₀)
    (hQ:∀ E' a' w',Ext E₀ w₀ E' w'→Sim E' N (s ops.length) a' w'→Q .normal a' w'):(Code.region rid ops.toArray true).wpIn (FW rr) 0 P Q a w₀:=by
  refine wpIn_region_any hm ?_
  have hdr:({ w₀ with drawn:=w₀.drawn + 1 }:World).heap=w₀.heap:=rfl
  have hext:Ext E₀ w₀ E₀ { w₀ with drawn:=w₀.drawn + 1 }:=Ext.same hdr
  have h0:Dom (s 0).H (s 0).nx:=hS.heap.dom
  refine any_order (E₀:=E₀) (w₀:=w₀) (df:=a.defers) ht h0 hS.defers hQ _ _ _ _ E₀ ?_ (by rw [List.size_toArray]; unfold left; exact Nat.le_trans List.countP_le_length (by simp))
  have hfalse:∀ k,(Array.replicate ops.toArray.size false).getD k false=false:=by
    intro k
    simp only [Array.getD_eq_getD_getElem?,Array.getElem?_replicate]
    split <;> rfl
  have hex:∃ c,c ≤ ops.length∧(∀ k o,k < c→ops[k]?=some o→opk o.op ≠ .write)∧(c < ops.length→∃ o,ops[c]?=some o∧opk o.op=.write):=by
    have:∀ m,m ≤ ops.length→(∃ c,c ≤ ops.length∧(∀ k o,k < c→ops[k]?=some o→opk o.op ≠ .write)∧(c < ops.length→∃ o,ops[c]?=some o∧opk o.op=.write)) ∨ (∀ k o,k < m→ops[k]?=some o→opk o.op ≠ .write):=by
      intro m
      induction m with
      | zero=>intro _; exact .inr (fun k o h=>by omega)
      | succ m ih =>
        intro h2
        rcases ih (by omega) with h | h
        · exact .inl h
        · obtain ⟨om,hom⟩:=exists_get (ops:=ops) (i:=m) (by omega)
          by_cases hw:opk om.op=.write
          · exact .inl ⟨m,by omega,h,fun _=>⟨om,hom,hw⟩⟩
          · refine .inr (fun k o h4 h5=>?_)
            by_cases hkm:k=m
            · subst hkm; rw [hom] at h5; cases h5; exact hw
            · exact h k o (by omega) h5
    rcases this ops.length (Nat.le_refl _) with h | h
    · exact h
    · exact ⟨ops.length,Nat.le_refl _,h,fun h=>by omega⟩
  obtain ⟨c,hc,c1,c2⟩:=hex
  have hsub:=ht.sub h0 c (Nat.zero_le _) hc (fun k o _ h2 h3=>c1 k o h2 h3)
  refine ⟨by simp,?_,hS.env.drew,hext,hS.size,fun t=>?_,rfl,hS.round,hS.floor,c,hc,fun k o h1 h2 h3=>absurd h3 (c1 k o h1 h2),fun h=>⟨c2 h,hfalse _⟩,?_,hS.fresh.le hsub.2,?_⟩
  · intro j i h1; rw [hfalse] at h1; cases h1
  · unfold TL
    have:=(hS.tmps t).ext hext
    cases wtr ops t with
    | none=>exact this
    | some j=>simp only [hfalse]; exact this
  · refine (hS.heap.same hdr).more (fun b cs hb=>?_) (ht.dom h0 c hc)
    refine (ht.new h0 c (Nat.zero_le _) hc (fun k o _ h2 h3=>c1 k o h2 h3) b cs hb).imp id (fun h=>⟨hS.fresh b h.1,h.2⟩)
  · intro k o h1 h2 _ _ _
    exact hS.fresh _ (ht.nx_mono h0 k (Nat.zero_le _) (by omega))
end
end Go.Abs
namespace Go.Abs
open Go.RowKit
abbrev Tm:=Nat→AV
abbrev Hp:=Nat→Option (List AV)
abbrev SP:=Tm→Hp→Nat→Prop
inductive AEx where
  | normal | exit (id:Nat) | ret
def obind {α:Type} (x:Option α) (K:α→Prop):Prop:=match x with | some a=>K a | none=>False
@[congr] theorem obind_congr {α:Type} {x y:Option α} {K:α→Prop} (h:x=y):obind x K=obind y K:=by rw [h]
def gbind (x:Option Bool) (A B:Prop):Prop:=match x with | some true=>A | some false=>B | none=>False
@[congr] theorem gbind_congr {x y:Option Bool} {A B:Prop} (h:x=y):gbind x A B=gbind y A B:=by rw [h]
def bbind (x:Bool) (A:Prop):Prop:=x=true∧A
@[congr] theorem bbind_congr {x y:Bool} {A:Prop} (h:x=y):bbind x A=bbind y A:=by rw [h]
def acond (v:AV) (A B:Prop):Prop:=match v with | .bool b=>(b=true→A)∧(b=false→B) | _=>False
@[congr] theorem acond_congr {v v':AV} {A B:Prop} (h:v=v'):acond v A B=acond v' A B:=by rw [h]
def PCall (P:Program) (g:FuncId) (args:List AV) (H:Hp) (K:AV→Prop):Prop:=∃ r,CallOk P g args H r∧K r
@[congr] theorem PCall_congr {P:Program} {g:FuncId} {args args':List AV} {H H':Hp} {K:AV→Prop} (h:args=args') (h2:H=H'):PCall P g args H K=PCall P g args' H' K:=by rw [h,h2]
theorem PCall.of_pure {P:Program} {f:FuncId} {args args':List AV} {r:AV} {H:Hp} {K:AV→Prop} (hp:Pure P f args' r) (hs:SnapArgs H args args' r) (hR:K r):PCall P f args H K:=⟨_,hp.callOk hs,hR⟩
theorem PCall.of_callOk {P:Program} {f:FuncId} {args:List AV} {r:AV} {H:Hp} {K:AV→Prop} (hp:CallOk P f args H r) (hR:K r):PCall P f args H K:=⟨_,hp,hR⟩
def isFn (v:AV):Option (FuncId × List AV):=match v with | .func g caps=>some (g,caps) | _=>none
def callOf:Op→Option (Operand × Array Operand)
  | .call { callee:=.value f,args:=args,argTypes:=_ }=>some (f,args)
  | _=>none
theorem callOf_eq {op:Op} {f:Operand} {args:Array Operand} (h:callOf op=some (f,args)):∃ ts,op=.call { callee:=.value f,args:=args,argTypes:=ts }:=by
  unfold callOf at h
  split at h
  · cases h; exact ⟨_,rfl⟩
  · cases h
inductive OpC where
  | val | eff | call | other
def opc:Op→OpC
  | .call { callee:=.value _,.. }=>.call
  | op=>match opk op with
    | .pure | .touch=>.val
    | .alloc | .write=>.eff
    | .other=>.other
inductive DM where
  | text | draw | fresh (m:Nat)
def DM.fr:DM→Option Nat
  | .fresh m=>some m
  | _=>none
def DM.isText:DM→Bool
  | .text=>true
  | _=>false
def dmOk (dm:DM) (T:Tm) (op:Op):Bool:=match dm with
  | .fresh m=>frOk T op m
  | _=>true
def aop1o (P:Program) (dm:DM) (op:Op) (T:Tm) (H:Hp) (nx:Nat) (K:AV→Hp→Nat→Prop):Prop :=
  match opc op with
  | .val=>bbind (dmOk dm T op) (obind (aval P T H op) fun r=>K r H nx)
  | .eff=>bbind (dmOk dm T op) (obind (aeff P T H nx op) fun x=>K x.1 x.2.1 x.2.2)
  | .call=>obind (callOf op) fun x=>obind (isFn (ev T x.1)) fun y=>match dm.isText with
    | false=>PCall P y.1 (x.2.toList.map (ev T) ++ y.2) H fun r=>K r H nx
    | true=>Fn P y.1 (x.2.toList.map (ev T) ++ y.2) H nx K
  | .other=>False
def aspec (P:Program) (op:Op) (T:Tm) (H:Hp) (nx:Nat) (K:AV→Hp→Nat→Prop):Prop :=
  (∀ c,op ≠ .defer c)∧∀ (rr:Option Nat) (E:Env) (w:World) (a:Act) (o:Oper) (next:Act→World→Prop) (Q:Exit→Act→World→Prop),o.op=op→EnvOk E w→HeapOk E H nx w→Fresh E nx→(∀ x ∈ op.operands,Rel E w (ev T x) (a.eval x)) →
    (∀ (E':Env) (H':Hp) (nx':Nat) (r:AV) (v:Value) (w':World),Ext E w E' w'→EnvOk E' w'→HeapOk E' H' nx' w'→Fresh E' nx'→Rel E' w' r v→K r H' nx'→next (a.put o.dst v) w') →
    o.uponIn (FW rr) 0 P a next Q ((execOp a.eval o).run P w)
def aop1 (P:Program) (dm:DM) (op:Op) (T:Tm) (H:Hp) (nx:Nat) (K:AV→Hp→Nat→Prop):Prop :=
  aop1o P dm op T H nx K ∨ (dm.isText=true∧aspec P op T H nx K)
def aop (P:Program) (n:Nat) (dm:DM) (dsts:List (Option Nat)) (o:Oper) (T:Tm) (H:Hp) (nx:Nat) (K:SP):Prop :=
  bbind (dok n o.dst) (gbind (gval T dsts o.guard) (aop1 P dm o.op T H nx fun r H' nx'=>K (updo T o.dst r) H' nx') (K (updo T o.dst (.tup [])) H nx))
def aops (P:Program) (n:Nat) (dm:DM) (dsts:List (Option Nat)):List Oper→Tm→Hp→Nat→SP→Prop
  | [],T,H,nx,K=>K T H nx
  | o :: l,T,H,nx,K=>aop P n dm dsts o T H nx fun T H nx=>aops P n dm dsts l T H nx K
theorem aspec_mono {P:Program} {op:Op} {T:Tm} {H:Hp} {nx:Nat} {K K':AV→Hp→Nat→Prop} (h:aspec P op T H nx K) (hK:∀ r H nx,K r H nx→K' r H nx):aspec P op T H nx K' :=
  ⟨h.1,fun rr E w a o next Q ho hE hh hf ht hn=>h.2 rr E w a o next Q ho hE hh hf ht (fun E' H' nx' r v w' h1 h2 h3 h4 h5 h6=>hn E' H' nx' r v w' h1 h2 h3 h4 h5 (hK _ _ _ h6))⟩
theorem aop1o_mono {P:Program} {dm:DM} {op:Op} {T:Tm} {H:Hp} {nx:Nat} {K K':AV→Hp→Nat→Prop} (h:aop1o P dm op T H nx K) (hK:∀ r H nx,K r H nx→K' r H nx):aop1o P dm op T H nx K':=by
  have ob:∀ {α:Type} {x:Option α} {A B:α→Prop},(∀ a,A a→B a)→obind x A→obind x B:=by
    intro α x A B hab h; cases x with
    | none=>exact h
    | some a=>exact hab a h
  unfold aop1o at h ⊢
  split at h
  · exact ⟨h.1,ob (fun a=>hK _ _ _) h.2⟩
  · exact ⟨h.1,ob (fun a=>hK _ _ _) h.2⟩
  · refine ob (fun a=>ob (fun b=>?_)) h
    intro h
    cases hd:dm.isText with
    | false=>rw [hd] at h; obtain ⟨r,h1,h3⟩:=h; exact ⟨r,h1,hK _ _ _ h3⟩
    | true=>rw [hd] at h; exact Fn.mono h hK
  · exact h
theorem aop1_mono {P:Program} {dm:DM} {op:Op} {T:Tm} {H:Hp} {nx:Nat} {K K':AV→Hp→Nat→Prop} (h:aop1 P dm op T H nx K) (hK:∀ r H nx,K r H nx→K' r H nx):aop1 P dm op T H nx K' :=
  h.imp (fun h=>aop1o_mono h hK) (fun h=>⟨h.1,aspec_mono h.2 hK⟩)
theorem aop_mono {P:Program} {N:Nat} {dm:DM} {dsts:List (Option Nat)} {o:Oper} {T:Tm} {H:Hp} {nx:Nat} {K K':SP} (h:aop P N dm dsts o T H nx K) (hK:∀ T H nx,K T H nx→K' T H nx):aop P N dm dsts o T H nx K':=by
  unfold aop at h ⊢
  refine ⟨h.1,?_⟩
  have h:=h.2
  cases hg:gval T dsts o.guard with
  | none=>rw [hg] at h; exact h.elim
  | some b =>
    rw [hg] at h
    cases b with
    | true=>exact aop1_mono (K:=fun r H' nx'=>K (updo T o.dst r) H' nx') h (fun _ _ _=>hK _ _ _)
    | false=>exact hK _ _ _ h
theorem aops_mono {P:Program} {N:Nat} {dm:DM} {dsts:List (Option Nat)} {K K':SP} (hK:∀ T H nx,K T H nx→K' T H nx):∀ (l:List Oper) {T:Tm} {H:Hp} {nx:Nat},aops P N dm dsts l T H nx K→aops P N dm dsts l T H nx K'
  | [],_,_,_,h=>hK _ _ _ h
  | o :: l,_,_,_,h=>aop_mono h (fun _ _ _=>aops_mono hK l)
def Weak (T T':Tm):Prop:=∀ t,T' t=T t ∨ T' t=.undef
theorem Weak.refl (T:Tm):Weak T T:=fun _=>.inl rfl
theorem Sim.weak {E:Env} {N:Cfg} {T T':Tm} {H:Hp} {nx:Nat} {a:Act} {w:World} (h:Sim E N ⟨T,H,nx⟩ a w) (hw:Weak T T'):Sim E N ⟨T',H,nx⟩ a w :=
  ⟨h.env,h.heap,h.fresh,h.round,h.floor,h.size,fun t=>by
    show Rel E w (T' t) _
    rcases hw t with e | e
    · rw [e]; exact h.tmps t
    · rw [e]; exact .undef _,h.defers⟩
def GhV (Hf:Hp) (nx nx':Nat) (x x':AV):Prop:=x'=x ∨ Snap Hf x x' ∨ (x=.esl∧∃ b sz,x'=.msl b 0 sz 0 0∧nx ≤ b∧b < nx')
structure Gh (T:Tm) (H:Hp) (nx:Nat) (T':Tm) (H':Hp) (nx':Nat) (Hf:Hp):Prop where
  sub:∀ b cs,Hf b=some cs→H b=some cs
  le:nx ≤ nx'
  heap:∀ b cs',H' b=some cs'→(∃ cs,H b=some cs∧Hf b=none∧cs'.length=cs.length∧∀ (i:Nat) (x x':AV),cs[i]?=some x→cs'[i]?=some x'→GhV Hf nx nx' x x') ∨ (cs'=[]∧nx ≤ b∧b < nx')
  tmps:∀ t,T' t=.undef ∨ GhV Hf nx nx' (T t) (T' t)
theorem Gh.refl (T:Tm) (H:Hp) (nx:Nat):Gh T H nx T H nx noBoxes :=
  ⟨fun _ _ h=>(by cases h),Nat.le_refl _,fun b cs h=>.inl ⟨cs,h,rfl,rfl,fun i x x' h1 h2=>.inl (by rw [h1] at h2; cases h2; rfl)⟩,fun t=>.inr (.inl rfl)⟩
theorem HeapOk.blk_cells {E:Env} {H:Hp} {nx:Nat} {w:World} (h:HeapOk E H nx w) {b:Nat} {cs:List AV} {blk sz:Nat} (hb:H b=some cs) (hm:E.mu b cs.length=some (blk,sz)):∃ vals ty fz,w.heap[blk]?=some (.cells vals ty fz):=by
  rcases h.box b cs hb with hn | ⟨blk',sz',hx⟩
  · rw [hn] at hm; cases hm
  · rw [hx.mu] at hm; cases hm
    obtain ⟨vals,ty,fz,h1,_⟩:=hx.cells
    exact ⟨vals,ty,fz,h1⟩
theorem GhV.sound {E:Env} {H Hf:Hp} {nx nx':Nat} {w:World} (hh:HeapOk E H nx w) (hsub:∀ b cs,Hf b=some cs→H b=some cs) {x x':AV} (h:GhV Hf nx nx' x x') {v:Value} (hv:Rel E w x v) :
    Rel { E with imm:=fun b=>E.imm b ∨ liveB E Hf b } w x' v:=by
  rcases h with rfl | h | ⟨rfl,b,sz,rfl,_,_⟩
  · exact hv.mono (E':={ E with imm:=fun b=>E.imm b ∨ liveB E Hf b }) (fun _ h=>.inl h) (fun _ _ _ h=>h) (fun _ _ h=>h)
  · have hf:HeapOk E Hf nx w:=hh.fewer hsub (fun b cs hb=>hh.dom b cs (hsub b cs hb))
    exact Rel.mono (E:=E0 fun b=>E.imm b ∨ liveB E Hf b) (E':={ E with imm:=fun b=>E.imm b ∨ liveB E Hf b }) (fun _ h=>h) (fun _ _ _ h=>(by cases h)) (fun _ _ h=>(by cases h)) (h.sound hf hv)
  · cases hv with
    | eslnil=>exact .msl0 _ _ _ (.inl rfl)
    | esl a=>exact .msl0 _ _ _ (.inr ⟨_,rfl⟩)
theorem Sim.ghost {E:Env} {N:Cfg} {T T':Tm} {H H' Hf:Hp} {nx nx':Nat} {a:Act} {w:World} (h:Sim E N ⟨T,H,nx⟩ a w) (hg:Gh T H nx T' H' nx' Hf):∃ E',Ext E w E' w∧Sim E' N ⟨T',H',nx'⟩ a w:=by
  have hh:=h.heap
  have hfr:=h.fresh
  simp only at hh hfr
  have hblk:∀ b,liveB E Hf b→b < w.heap.size∧E.base ≤ b∧¬ E.imm b:=fun b ⟨b',cs,sz,h1,h2⟩=>hh.blk_lt (hg.sub _ _ h1) h2
  have he:Ext E w { E with imm:=fun b=>E.imm b ∨ liveB E Hf b } w :=
    ⟨rfl,rfl,fun _ h=>.inl h,fun b hb=>hb.imp id (fun h=>(hblk b h).2.1),fun _ _ _ h=>h,fun _ _ h=>h,fun _ _ h=>h,fun _ h=>⟨h,rfl⟩,Nat.le_refl _,fun _ _=>rfl⟩
  have hEs:EnvOk { E with imm:=fun b=>E.imm b ∨ liveB E Hf b } w:=h.env.step he (fun b hb=>hb.imp id (fun h=>(hblk b h).1)) (fun k hk=>hk.imp id (fun ⟨b',cs,sz,h1,h2⟩ b hb=>by
    obtain ⟨vals,ty,fz,hc⟩:=hh.blk_cells (hg.sub _ _ h1) h2
    obtain ⟨_,_,o,ho,hno,_⟩:=h.env.spb b k hb
    rw [hc] at ho; cases ho; cases hno)) (Below.refl _ _) (Still.refl _) rfl rfl rfl (fun _ _ _ _=>rfl)
  refine ⟨_,he,hEs,?_,fun b hb=>hfr b (Nat.le_trans hg.le hb),fun l hl=>h.round l hl,h.floor,h.size,fun t=>?_,h.defers.ext he⟩
  · refine ⟨fun b cs' hb=>?_,fun b cs' hb=>?_,fun b b' cs1 cs2 blk sz blk' sz' hb hb' hne m1 m2=>?_,hh.size,fun b cs' m x hb hm=>?_,fun b x hb hx=>?_,fun b hb=>?_⟩
    · rcases hg.heap b cs' hb with ⟨cs,h1,h2,h3,h4⟩ | ⟨rfl,h1,h2⟩
      · rw [h3]
        rcases hh.box b cs h1 with hn | ⟨blk,sz,hx⟩
        · exact .inl hn
        · refine .inr ⟨blk,sz,by rw [h3]; exact hx.mu,hx.base,?_,?_⟩
          · rintro (hi | ⟨b',cs1,sz',k1,k2⟩)
            · exact hx.imm hi
            · have hne:b ≠ b':=fun e=>by subst e; rw [h2] at k1; cases k1
              exact hh.apart b b' cs cs1 blk sz blk sz' h1 (hg.sub _ _ k1) hne hx.mu k2 rfl
          · obtain ⟨vals,ty,fz,k1,kz,k2,k3,k4⟩:=hx.cells
            refine ⟨vals,ty,fz,k1,kz,k2,by omega,fun i x' hx'=>?_⟩
            have hlt:i < cs.length:=by have:=(List.getElem?_eq_some_iff.1 hx').1; omega
            obtain ⟨v,e1,e2,e3⟩:=k4 i cs[i] (by simp [hlt])
            exact ⟨v,e1,e2,(h4 i _ x' (by simp [hlt]) hx').sound hh hg.sub e3⟩
      · exact .inl ((hfr b h1).1 _)
    · rcases hg.heap b cs' hb with ⟨cs,h1,_⟩ | ⟨_,_,h2⟩
      · exact Nat.lt_of_lt_of_le (hh.dom _ _ h1) hg.le
      · exact h2
    · rcases hg.heap b cs1 hb with ⟨ds1,h1,_,h1',_⟩ | ⟨_,h1,_⟩
      · rcases hg.heap b' cs2 hb' with ⟨ds2,h2,_,h2',_⟩ | ⟨_,h2,_⟩
        · rw [h1'] at m1; rw [h2'] at m2
          exact hh.apart b b' ds1 ds2 blk sz blk' sz' h1 h2 hne m1 m2
        · have:=(hfr b' h2).1 cs2.length
          rw [this] at m2; cases m2
      · have:=(hfr b h1).1 cs1.length
        rw [this] at m1; cases m1
    · rcases hg.heap b cs' hb with ⟨cs,h1,_,h3,_⟩ | ⟨_,h1,_⟩
      · rw [h3]; exact hh.top b cs m x h1 hm
      · have:=(hfr b h1).1 m
        rw [this] at hm; cases hm
    · rcases hg.heap b [x] hb with ⟨cs,h1,_,h3,h4⟩ | ⟨hn,_⟩
      · match cs,h3 with
        | [y],_ =>
          have e:x=y:=by
            rcases h4 0 y x rfl rfl with e | e | ⟨_,_,_,e,_⟩
            · exact e
            · exfalso; cases e <;> cases hx
            · subst e; cases hx
          subst e
          obtain ⟨k,k1,k2⟩:=hh.spec b x h1 hx
          exact ⟨k,k1,k2.ext he (fun _ _ _ h _=>h)⟩
      · cases hn
    · rcases hg.heap b [] hb with ⟨cs,h1,_,h3,_⟩ | ⟨_,h1,_⟩
      · exact hh.nsp b (by rw [h1,List.length_eq_zero_iff.1 h3.symm])
      · exact (hfr b h1).2.1
  · show Rel _ w (T' t) _
    rcases hg.tmps t with e | e
    · rw [e]; exact .undef _
    · exact e.sound hh hg.sub (h.tmps t)
def athen (e:AEx) (A B:Prop):Prop:=match e with | .normal=>A | _=>B
@[congr] theorem athen_congr {e e':AEx} {A B:Prop} (h:e=e'):athen e A B=athen e' A B:=by rw [h]
def ablock (id:Nat):AEx→AEx
  | .exit i=>if i=id then .normal else .exit i
  | e=>e
abbrev CP:=AEx→SP
def aloopN (body:Tm→Hp→Nat→CP→Prop) (K:CP):Nat→Tm→Hp→Nat→Prop
  | 0,_,_,_=>False
  | n + 1,T,H,nx=>∃ T' H' nx' Hf,Gh T H nx T' H' nx' Hf∧body T' H' nx' fun e T H nx=>athen e (aloopN body K n T H nx) (K e T H nx)
def aloop (body:Tm→Hp→Nat→CP→Prop) (T:Tm) (H:Hp) (nx:Nat) (K:CP):Prop:=∃ n,aloopN body K n T H nx
def AEx.cv:AEx→Exit
  | .normal=>.normal
  | .exit i=>.exit i
  | .ret=>.ret
def APost (P:Program) (N:Cfg) (E:Env) (w:World) (K:CP):Exit→Act→World→Prop:=fun e a' w' =>
  ∃ x E' T H nx,e=AEx.cv x∧Ext E w E' w'∧Sim E' N ⟨T,H,nx⟩ a' w'∧K x T H nx
theorem APost.trans {P:Program} {N:Cfg} {E E':Env} {w w':World} {K:CP} (he:Ext E w E' w') {e:Exit} {a:Act} {w'':World} (h:APost P N E' w' K e a w''):APost P N E w K e a w'':=by
  obtain ⟨x,E'',T,H,nx,h1,h2,h3,h4⟩:=h
  exact ⟨x,E'',T,H,nx,h1,he.trans h2,h3,h4⟩
theorem APost.mono {P:Program} {N:Cfg} {E:Env} {w:World} {K K':CP} (hK:∀ e T H nx,K e T H nx→K' e T H nx) {e:Exit} {a:Act} {w':World} (h:APost P N E w K e a w'):APost P N E w K' e a w':=by
  obtain ⟨x,E',T,H,nx,h1,h2,h3,h4⟩:=h
  exact ⟨x,E',T,H,nx,h1,h2,h3,hK _ _ _ _ h4⟩
def RF (P:Program) (n:Nat) (c:Code) (T:Tm) (H:Hp) (nx:Nat) (K:CP):Prop :=
  ∀ (N:Cfg) (E:Env) (a:Act) (w:World),N.n=n→Sim E N ⟨T,H,nx⟩ a w→c.wpIn (FW N.rd) 0 P (APost P N E w K) a w
theorem RF.mono {P:Program} {n:Nat} {c:Code} {T:Tm} {H:Hp} {nx:Nat} {K K':CP} (h:RF P n c T H nx K) (hK:∀ e T H nx,K e T H nx→K' e T H nx):RF P n c T H nx K' :=
  fun N E a w hn hS=>wpIn_mono (h N E a w hn hS) (fun _ _ _=>APost.mono hK)
theorem Sim.put {E E':Env} {N:Cfg} {T:Tm} {H H':Hp} {nx nx':Nat} {a:Act} {w w':World} (h:Sim E N ⟨T,H,nx⟩ a w) (he:Ext E w E' w') (hE:EnvOk E' w') (hH:HeapOk E' H' nx' w') (hf:Fresh E' nx')
    {d:Option Nat} (hd:dok N.n d=true) {r:AV} {v:Value} (hr:Rel E' w' r v):Sim E' N ⟨updo T d r,H',nx'⟩ (a.put d v) w':=by
  refine ⟨hE,hH,hf,fun l hl=>let ⟨b,x,h1,h2⟩:=h.round l hl; ⟨b,x,he.lp _ _ h1,he.sp _ _ h2⟩,Nat.le_trans h.floor he.size,?_,fun t=>?_,?_⟩
  · cases d with
    | none=>exact h.size
    | some d=>simp [Act.put,h.size]
  · cases d with
    | none=>exact (h.tmps t).ext he
    | some d =>
      simp only [dok,decide_eq_true_eq] at hd
      simp only [updo,upd,Act.put]
      by_cases hdt:t=d
      · subst hdt
        rw [if_pos rfl]
        have:t < a.tmps.size:=by rw [h.size]; exact hd
        simp [this]; exact hr
      · rw [if_neg hdt]
        have:=(h.tmps t).ext he
        have e:(a.tmps.setIfInBounds d v).getD t Go.undef=a.tmps.getD t Go.undef:=by
          simp only [Array.getD_eq_getD_getElem?]
          rw [Array.getElem?_setIfInBounds_ne (Ne.symm hdt)]
        rw [e]; exact this
  · have:(a.put d v).defers=a.defers:=by cases d <;> rfl
    rw [this]; exact h.defers.ext he
theorem aop_sound {P:Program} {N:Cfg} {rr:Option Nat} {ops:Array Oper} {Q:Exit→Act→World→Prop} {next:Act→World→Prop} {o:Oper} {E:Env} {T:Tm} {H:Hp} {nx:Nat} {a:Act} {w:World} {K:SP} (hS:Sim E N ⟨T,H,nx⟩ a w)
    (h:aop P N.n .text (ops.toList.map (·.dst)) o T H nx K) (hK:∀ E' T' H' nx' a' w',Ext E w E' w'→Sim E' N ⟨T',H',nx'⟩ a' w'→K T' H' nx'→next a' w') :
    if Region.wanted o (yielded ops a.tmps) then o.wpIn (FW rr) 0 P a w next Q else (∀ f,o.about P w a.eval=some f→(FW rr).fn f)∧next (a.put o.dst Go.undef) w:=by
  obtain ⟨hd,h⟩:=h
  have hfin:∀ E' H' nx' r v w',Ext E w E' w'→EnvOk E' w'→HeapOk E' H' nx' w'→Fresh E' nx'→Rel E' w' r v→K (updo T o.dst r) H' nx'→next (a.put o.dst v) w' :=
    fun E' H' nx' r v w' he hE hH hf hr hk=>hK E' _ _ _ _ _ he (hS.put he hE hH hf hd hr) hk
  cases hg:gval T (ops.toList.map (·.dst)) o.guard with
  | none=>rw [hg] at h; exact h.elim
  | some b =>
    have hw:=gval_sound (E:=E) (w:=w) (a:=a) (o:=o) (fun t _=>hS.tmps t) hg
    rw [hg] at h
    rw [Array.toArray_toList] at hw
    rw [hw]
    cases b with
    | false =>
      simp only [Bool.false_eq_true,if_false]
      exact ⟨fun _ _=>trivial,hfin E H nx (.tup []) Go.undef w (Ext.refl _ _) hS.env hS.heap hS.fresh (undef_rel _ _) h⟩
    | true =>
      simp only [if_true]
      refine ⟨fun _ _=>trivial,?_⟩
      have h:aop1 P .text o.op T H nx fun r H' nx'=>K (updo T o.dst r) H' nx':=h
      rcases h with h | h
      rotate_left
      · rw [semAt_FW h.2.1]
        exact h.2.2 rr E w a o next Q rfl hS.env hS.heap hS.fresh (fun x _=>ev_rel hS.tmps x) (fun E' H' nx' r v w' h1 h2 h3 h4 h5 h6=>hfin E' H' nx' r v w' h1 h2 h3 h4 h5 h6)
      unfold aop1o at h
      split at h
      · obtain ⟨_,h⟩:=h
        cases ha:aval P T H o.op with
        | none=>rw [ha] at h; exact h.elim
        | some r =>
          rw [ha] at h
          obtain ⟨v,h1,h2⟩:=aval_sound hS.heap hS.tmps ha
          rw [semAt_FW (aval_nodefer ha),h1,Oper.uponIn_value]
          exact hfin E H nx r v w (Ext.refl _ _) hS.env hS.heap hS.fresh h2 h
      · obtain ⟨_,h⟩:=h
        cases ha:aeff P T H nx o.op with
        | none=>rw [ha] at h; exact h.elim
        | some x =>
          obtain ⟨r,H',nx'⟩:=x
          rw [ha] at h
          obtain ⟨n,v,w',E',h1,h2,h3,h4,h5,h6,h7⟩:=aeff_sound hS.env hS.heap hS.fresh hS.tmps ha
          rw [semAt_FW (aeff_nodefer ha),h1]
          have:=hfin E' H' nx' r v w' h3 h4 h5 h7 h6 h
          rcases h2 with rfl | ⟨rfl,rfl⟩
          · rw [Oper.uponIn_value]; exact this
          · rw [Oper.uponIn_skip]; exact this
      · cases hc:callOf o.op with
        | none=>rw [hc] at h; exact h.elim
        | some x =>
          obtain ⟨f,args⟩:=x
          rw [hc] at h
          obtain ⟨ts,ho⟩:=callOf_eq hc
          have h:obind (isFn (ev T f)) fun y=>Fn P y.1 (args.toList.map (ev T) ++ y.2) H nx fun r H' nx'=>K (updo T o.dst r) H' nx':=h
          cases hf:isFn (ev T f) with
          | none=>rw [hf] at h; exact h.elim
          | some y =>
            obtain ⟨g,caps⟩:=y
            rw [hf] at h
            have hev:ev T f=.func g caps:=by
              unfold isFn at hf; split at hf
              · rename_i hh; cases hf; exact hh
              · cases hf
            have h:Fn P g (args.toList.map (ev T) ++ caps) H nx fun r H' nx'=>K (updo T o.dst r) H' nx':=h
            have hfr:=ev_rel (E:=E) (w:=w) (a:=a) hS.tmps f
            simp only at hfr
            rw [hev] at hfr
            generalize hvf:a.eval f=vf at hfr
            cases hfr with
            | func _ _ cv hl hcr =>
            have hargs:RelL E w (args.toList.map (ev T) ++ caps) (args.toList.map a.eval ++ cv):=by
              refine ⟨by simp [hl],fun j x y hx hy=>?_⟩
              rw [List.getElem?_append] at hx hy
              simp only [List.length_map] at hx hy
              split at hx
              · rename_i hlt
                rw [if_pos hlt] at hy
                exact (relL_map (T:=T) hS.tmps args.toList).2 j x y hx hy
              · rename_i hlt
                rw [if_neg hlt] at hy
                exact hcr _ _ _ hx hy
            have hcalls:=h.2 E w _ hS.env hS.heap hS.fresh hargs
            rw [semAt_FW (by rw [ho]; intro c; simp),run_callValue ho hvf h.1,Oper.uponIn_enter]
            refine ⟨(fun h=>by cases h),?_⟩
            have harr:args.map a.eval ++ cv.toArray=(args.toList.map a.eval ++ cv).toArray:=by
              rw [arr_map]; simp
            rw [harr]
            refine (callsIn_FW hcalls).mono ?_
            rintro e w' ⟨v,E',r,H',nx',rfl,he,hE',hH',hf',hrel,hk⟩
            exact hfin E' H' nx' r v w' he hE' hH' hf' hrel hk
      · exact h.elim
theorem aops_sound {P:Program} {N:Cfg} {rr:Option Nat} {ops:Array Oper} {Q:Exit→Act→World→Prop} {K:SP}:∀ (l:List Oper) {E:Env} {T:Tm} {H:Hp} {nx:Nat} {a:Act} {w:World},Sim E N ⟨T,H,nx⟩ a w →
    aops P N.n .text (ops.toList.map (·.dst)) l T H nx K→(∀ E' T' H' nx' a' w',Ext E w E' w'→Sim E' N ⟨T',H',nx'⟩ a' w'→K T' H' nx'→Q .normal a' w')→wpListIn (FW rr) 0 P ops Q l a w
  | [],E,T,H,nx,a,w,hS,h,hQ=>hQ E T H nx a w (Ext.refl _ _) hS h
  | o :: l,E,T,H,nx,a,w,hS,h,hQ=>by
    have:=aop_sound (rr:=rr) (ops:=ops) (Q:=Q) (next:=wpListIn (FW rr) 0 P ops Q l) hS h (fun E' T' H' nx' a' w' he hS' hk =>
      aops_sound l hS' hk (fun E'' T'' H'' nx'' a'' w'' he'=>hQ E'' T'' H'' nx'' a'' w'' (he.trans he')))
    exact this
theorem aops_trace {P:Program} {N:Cfg} {dm:DM} (hdm:dm.isText=false) {dsts:List (Option Nat)} {K:SP}:∀ (l:List Oper) {T:Tm} {H:Hp} {nx:Nat},aops P N.n dm dsts l T H nx K →
    ∃ (s:Nat→St) (r:Nat→AV),s 0=⟨T,H,nx⟩∧(∀ i o,l[i]?=some o→DStep P N dm.fr dsts o (s i) (r i) (s (i + 1)))∧K (s l.length).T (s l.length).H (s l.length).nx
  | [],T,H,nx,h=>⟨fun _=>⟨T,H,nx⟩,fun _=>.undef,rfl,fun i o h=>(by cases h),h⟩
  | o :: l,T,H,nx,h=>by
    have hgo:∀ (q:AV) (st':St),DStep P N dm.fr dsts o ⟨T,H,nx⟩ q st'→aops P N.n dm dsts l st'.T st'.H st'.nx K →
        ∃ (s:Nat→St) (r:Nat→AV),s 0=⟨T,H,nx⟩∧(∀ i o',(o :: l)[i]?=some o'→DStep P N dm.fr dsts o' (s i) (r i) (s (i + 1)))∧K (s (o :: l).length).T (s (o :: l).length).H (s (o :: l).length).nx:=by
      intro q st' hst hrest
      obtain ⟨s,r,h0,h1,h2⟩:=aops_trace hdm l hrest
      refine ⟨fun i=>match i with | 0=>⟨T,H,nx⟩ | i + 1=>s i,fun i=>match i with | 0=>q | i + 1=>r i,rfl,fun i o' ho'=>?_,h2⟩
      cases i with
      | zero =>
        simp at ho'; subst ho'
        show DStep P N dm.fr dsts o ⟨T,H,nx⟩ q (s 0)
        rw [h0]; exact hst
      | succ i=>exact h1 i o' (by simpa using ho')
    obtain ⟨hd,h⟩:=h
    cases hg:gval T dsts o.guard with
    | none=>rw [hg] at h; exact h.elim
    | some b =>
      rw [hg] at h
      cases b with
      | false=>exact hgo (.tup []) _ (.skip hg hd) h
      | true =>
        have h:aop1 P dm o.op T H nx fun r H' nx'=>aops P N.n dm dsts l (updo T o.dst r) H' nx' K:=h
        replace h:=h.resolve_right (fun h=>by rw [hdm] at h; cases h.1)
        unfold aop1o at h
        split at h
        · obtain ⟨hk,h⟩:=h
          have hk':∀ m,dm.fr=some m→frOk T o.op m=true:=by
            intro m hm
            cases dm <;> first | (cases hm; done) | (cases hm; exact hk)
          cases ha:aval P T H o.op with
          | none=>rw [ha] at h; exact h.elim
          | some r=>rw [ha] at h; exact hgo r _ (.val r hk' hg hd ha) h
        · obtain ⟨hk,h⟩:=h
          have hk':∀ m,dm.fr=some m→frOk T o.op m=true:=by
            intro m hm
            cases dm <;> first | (cases hm; done) | (cases hm; exact hk)
          cases ha:aeff P T H nx o.op with
          | none=>rw [ha] at h; exact h.elim
          | some x=>obtain ⟨r,H',nx'⟩:=x; rw [ha] at h; exact hgo r _ (.eff r H' nx' hk' hg hd ha) h
        · cases hc:callOf o.op with
          | none=>rw [hc] at h; exact h.elim
          | some x =>
            obtain ⟨f,args⟩:=x
            rw [hc,hdm] at h
            obtain ⟨ts,ho⟩:=callOf_eq hc
            have h:obind (isFn (ev T f)) fun y=>PCall P y.1 (args.toList.map (ev T) ++ y.2) H fun r=>aops P N.n dm dsts l (updo T o.dst r) H nx K:=h
            cases hf:isFn (ev T f) with
            | none=>rw [hf] at h; exact h.elim
            | some y =>
              obtain ⟨g,caps⟩:=y
              rw [hf] at h
              have hev:ev T f=.func g caps:=by
                unfold isFn at hf; split at hf
                · rename_i hh; cases hf; exact hh
                · cases hf
              obtain ⟨r,h1,h3⟩:=h
              exact hgo r _ (.call r f args ts g caps hg hd ho hev h1) h3
        · exact h.elim
end Go.Abs
namespace Go.Abs
open Go.RowKit
def isMov:Op→Bool
  | .move _ | .assign _=>true
  | _=>false
theorem isMov_pure {op:Op} (h:isMov op=true):opk op=.pure:=by
  cases op <;> first | (cases h; done) | rfl
structure VP (vp:Op→Bool):Prop where
  pure:∀ op,vp op=true→opk op=.pure
  mov:∀ op,isMov op=true→vp op=true
def aop1M (vp:Op→Bool) (P:Program) (op:Op) (T:Tm) (H:Hp) (nx:Nat) (K:AV→Hp→Nat→Prop):Prop :=
  if vp op=true then obind (aval P T H op) fun r=>K r H nx else aop1 P .text op T H nx K
def aopM (vp:Op→Bool) (P:Program) (n:Nat) (dsts:List (Option Nat)) (o:Oper) (T:Tm) (H:Hp) (nx:Nat) (K:SP):Prop :=
  bbind (dok n o.dst) (gbind (gval T dsts o.guard) (aop1M vp P o.op T H nx fun r H' nx'=>K (updo T o.dst r) H' nx') (K (updo T o.dst (.tup [])) H nx))
def aopsM (vp:Op→Bool) (P:Program) (n:Nat) (dsts:List (Option Nat)):List Oper→Tm→Hp→Nat→SP→Prop
  | [],T,H,nx,K=>K T H nx
  | o :: l,T,H,nx,K=>aopM vp P n dsts o T H nx fun T H nx=>aopsM vp P n dsts l T H nx K
theorem obind_elim {α:Type} {x:Option α} {K:α→Prop} (h:obind x K):∃ a,x=some a∧K a:=by
  cases x with
  | none=>exact h.elim
  | some a=>exact ⟨a,rfl,h⟩
theorem opc_pure {op:Op} (h:opk op=.pure):opc op=.val:=by
  unfold opc
  split
  · simp [opk] at h
  · rw [h]
theorem aop1M_aop1 {vp:Op→Bool} (hv:VP vp) {P:Program} {op:Op} {T:Tm} {H:Hp} {nx:Nat} {K:AV→Hp→Nat→Prop} (h:aop1M vp P op T H nx K):aop1 P .text op T H nx K:=by
  unfold aop1M at h
  split at h
  · rename_i hp
    left
    unfold aop1o
    rw [opc_pure (hv.pure _ hp)]
    exact ⟨rfl,h⟩
  · exact h
theorem aopM_aop {vp:Op→Bool} (hv:VP vp) {P:Program} {n:Nat} {dsts:List (Option Nat)} {o:Oper} {T:Tm} {H:Hp} {nx:Nat} {K:SP} (h:aopM vp P n dsts o T H nx K):aop P n .text dsts o T H nx K:=by
  refine ⟨h.1,?_⟩
  have h:=h.2
  cases hg:gval T dsts o.guard with
  | none=>rw [hg] at h; exact h.elim
  | some b =>
    rw [hg] at h
    cases b with
    | true=>exact aop1M_aop1 hv h
    | false=>exact h
theorem aop1M_mono {vp:Op→Bool} {P:Program} {op:Op} {T:Tm} {H:Hp} {nx:Nat} {K K':AV→Hp→Nat→Prop} (h:aop1M vp P op T H nx K) (hK:∀ r H nx,K r H nx→K' r H nx):aop1M vp P op T H nx K':=by
  unfold aop1M at h ⊢
  split
  · rename_i hp
    rw [if_pos hp] at h
    obtain ⟨a,ha,hk⟩:=obind_elim h
    rw [ha]; exact hK _ _ _ hk
  · rename_i hp
    rw [if_neg hp] at h
    exact aop1_mono h hK
theorem aopM_mono {vp:Op→Bool} {P:Program} {n:Nat} {dsts:List (Option Nat)} {o:Oper} {T:Tm} {H:Hp} {nx:Nat} {K K':SP} (h:aopM vp P n dsts o T H nx K) (hK:∀ r H nx,K (updo T o.dst r) H nx→K' (updo T o.dst r) H nx):aopM vp P n dsts o T H nx K':=by
  refine ⟨h.1,?_⟩
  have h:=h.2
  cases hg:gval T dsts o.guard with
  | none=>rw [hg] at h; exact h.elim
  | some b =>
    rw [hg] at h
    cases b with
    | true=>exact aop1M_mono (K:=fun r H' nx'=>K (updo T o.dst r) H' nx') h (fun r H nx=>hK r H nx)
    | false=>exact hK _ _ _ h
theorem aopsM_mono {vp:Op→Bool} {P:Program} {n:Nat} {dsts:List (Option Nat)} {K K':SP} (hK:∀ T H nx,K T H nx→K' T H nx):∀ (l:List Oper) {T:Tm} {H:Hp} {nx:Nat},aopsM vp P n dsts l T H nx K→aopsM vp P n dsts l T H nx K'
  | [],_,_,_,h=>hK _ _ _ h
  | o :: l,_,_,_,h=>aopM_mono h (fun _ _ _=>aopsM_mono hK l)
def Agree (ops:List Oper) (o:Oper) (T T':Tm):Prop:=∀ t,t ∈ o.looksAt ops.toArray→T t=T' t
theorem Agree.ev {ops:List Oper} {o:Oper} {T T':Tm} (h:Agree ops o T T'):∀ x ∈ o.op.operands,ev T x=ev T' x:=by
  intro x hx
  refine ev_congr fun t e=>?_
  subst e
  refine h t ?_
  unfold Oper.looksAt
  exact List.mem_append_left _ (List.mem_filterMap.2 ⟨.tmp t,by simpa using hx,rfl⟩)
theorem Agree.gval {ops:List Oper} {o:Oper} {T T':Tm} (h:Agree ops o T T'):gval T (ops.map (·.dst)) o.guard=gval T' (ops.map (·.dst)) o.guard:=by
  unfold Go.Abs.gval
  cases hg:o.guard with
  | none=>rfl
  | some p =>
    obtain ⟨j,want⟩:=p
    simp only
    cases hd:(ops.map (·.dst))[j]? with
    | none=>rfl
    | some d =>
      cases d with
      | none=>rfl
      | some d =>
        have:T d=T' d:=by
          refine h d ?_
          unfold Oper.looksAt
          refine List.mem_append_right _ ?_
          rw [hg]
          rw [List.getElem?_map] at hd
          cases ho:ops[j]? with
          | none=>rw [ho] at hd; cases hd
          | some o'=>rw [ho] at hd; simp at hd; simp [hd,ho]
        simp only [this]
theorem Agree.upd {ops:List Oper} {o:Oper} {T:Tm} {d:Option Nat} {v:AV} (h:∀ t,d=some t→t ∉ o.looksAt ops.toArray):Agree ops o T (updo T d v):=by
  intro t ht
  cases d with
  | none=>rfl
  | some d =>
    have:t ≠ d:=fun e=>h d rfl (by rw [← e]; exact ht)
    simp [updo,Go.Abs.upd,this]
theorem aop1o_congr {P:Program} {op:Op} {T T':Tm} {H:Hp} {nx:Nat} {K:AV→Hp→Nat→Prop} (he:∀ x ∈ op.operands,ev T x=ev T' x) (h:aop1o P .text op T H nx K):aop1o P .text op T' H nx K:=by
  unfold aop1o at h ⊢
  generalize opc op=k at h ⊢
  cases k with
  | val =>
    have h:bbind (dmOk .text T op) (obind (aval P T H op) fun r=>K r H nx):=h
    show bbind (dmOk .text T' op) (obind (aval P T' H op) fun r=>K r H nx)
    rw [← aval_congr he]; exact h
  | eff =>
    have h:bbind (dmOk .text T op) (obind (aeff P T H nx op) fun x=>K x.1 x.2.1 x.2.2):=h
    show bbind (dmOk .text T' op) (obind (aeff P T' H nx op) fun x=>K x.1 x.2.1 x.2.2)
    rw [← aeff_congr he]; exact h
  | call =>
    have h:obind (callOf op) fun x=>obind (isFn (ev T x.1)) fun y=>Fn P y.1 (x.2.toList.map (ev T) ++ y.2) H nx K:=h
    show obind (callOf op) fun x=>obind (isFn (ev T' x.1)) fun y=>Fn P y.1 (x.2.toList.map (ev T') ++ y.2) H nx K
    obtain ⟨x,hx,h⟩:=obind_elim h
    rw [hx]
    obtain ⟨f,args⟩:=x
    obtain ⟨ts,rfl⟩:=callOf_eq hx
    simp only [Op.operands,Call.operands] at he
    have e1:ev T f=ev T' f:=he f (Array.mem_append.2 (.inl (by simp)))
    have e2:args.toList.map (ev T)=args.toList.map (ev T'):=List.map_congr_left fun x hm=>he x (Array.mem_append.2 (.inr (by simpa using hm)))
    show obind (isFn (ev T' f)) fun y=>Fn P y.1 (args.toList.map (ev T') ++ y.2) H nx K
    rw [← e1,← e2]; exact h
  | other=>exact h.elim
theorem aspec_congr {P:Program} {op:Op} {T T':Tm} {H:Hp} {nx:Nat} {K:AV→Hp→Nat→Prop} (he:∀ x ∈ op.operands,ev T x=ev T' x) (h:aspec P op T H nx K):aspec P op T' H nx K :=
  ⟨h.1,fun rr E w a o next Q ho hE hh hf ht hn=>h.2 rr E w a o next Q ho hE hh hf (fun x hx=>by rw [he x hx]; exact ht x hx) hn⟩
theorem aop1M_congr {vp:Op→Bool} {P:Program} {op:Op} {T T':Tm} {H:Hp} {nx:Nat} {K:AV→Hp→Nat→Prop} (he:∀ x ∈ op.operands,ev T x=ev T' x) (h:aop1M vp P op T H nx K):aop1M vp P op T' H nx K:=by
  unfold aop1M at h ⊢
  split
  · rename_i hp
    rw [if_pos hp] at h
    rw [← aval_congr he]; exact h
  · rename_i hp
    rw [if_neg hp] at h
    rcases h with h | h
    · exact .inl (aop1o_congr he h)
    · exact .inr ⟨h.1,aspec_congr he h.2⟩
theorem updo_comm {T:Tm} {d e:Option Nat} {v r:AV} (h:∀ t,d=some t→e ≠ some t):updo (updo T e r) d v=updo (updo T d v) e r:=by
  cases d with
  | none=>rfl
  | some d =>
    cases e with
    | none=>rfl
    | some e =>
      have hne:d ≠ e:=fun hh=>h d rfl (by rw [hh])
      funext t
      simp only [updo,Go.Abs.upd]
      by_cases h1:t=d
      · subst h1; rw [if_pos rfl,if_neg hne,if_pos rfl]
      · rw [if_neg h1,if_neg h1]
structure Free (vp:Op→Bool) (ops:List Oper) (x o:Oper):Prop where
  d:∀ t,o.dst=some t→x.dst ≠ some t
  l1:∀ t,o.dst=some t→t ∉ x.looksAt ops.toArray
  l2:∀ t,x.dst=some t→t ∉ o.looksAt ops.toArray
  k:vp x.op=true
def pres (P:Program) (dsts:List (Option Nat)) (o:Oper) (T:Tm) (H:Hp):Option AV:=match gval T dsts o.guard with
  | some true=>aval P T H o.op
  | some false=>some (.tup [])
  | none=>none
theorem aopM_pure {vp:Op→Bool} {P:Program} {n:Nat} {dsts:List (Option Nat)} {o:Oper} {T:Tm} {H:Hp} {nx:Nat} {K:SP} (hp:vp o.op=true) (h:aopM vp P n dsts o T H nx K):∃ v,pres P dsts o T H=some v∧K (updo T o.dst v) H nx:=by
  obtain ⟨_,h⟩:=h
  unfold pres
  cases hg:gval T dsts o.guard with
  | none=>rw [hg] at h; exact h.elim
  | some b =>
    rw [hg] at h
    cases b with
    | true =>
      have h:aop1M vp P o.op T H nx fun r H' nx'=>K (updo T o.dst r) H' nx':=h
      unfold aop1M at h
      rw [if_pos hp] at h
      exact obind_elim h
    | false=>exact ⟨_,rfl,h⟩
theorem aopM_of_pure {vp:Op→Bool} {P:Program} {n:Nat} {dsts:List (Option Nat)} {o:Oper} {T:Tm} {H:Hp} {nx:Nat} {K:SP} (hp:vp o.op=true) (hd:dok n o.dst=true) {v:AV} (hv:pres P dsts o T H=some v) (hk:K (updo T o.dst v) H nx):aopM vp P n dsts o T H nx K:=by
  refine ⟨hd,?_⟩
  unfold pres at hv
  cases hg:gval T dsts o.guard with
  | none=>rw [hg] at hv; cases hv
  | some b =>
    rw [hg] at hv
    cases b with
    | true =>
      show aop1M vp P o.op T H nx _
      unfold aop1M
      rw [if_pos hp]
      have hv:aval P T H o.op=some v:=hv
      rw [hv]; exact hk
    | false=>cases hv; exact hk
theorem pres_congr {P:Program} {ops:List Oper} {o:Oper} {T T':Tm} {H H':Hp} (hp:opk o.op=.pure) (ha:Agree ops o T T'):pres P (ops.map (·.dst)) o T H=pres P (ops.map (·.dst)) o T' H':=by
  unfold pres
  rw [ha.gval]
  cases gval T' (ops.map (·.dst)) o.guard with
  | none=>rfl
  | some b =>
    cases b with
    | true=>simp only; rw [aval_congr ha.ev,aval_pure hp]
    | false=>rfl
theorem swapM {vp:Op→Bool} (hvp:VP vp) {P:Program} {n:Nat} {ops:List Oper} {x o:Oper} {T:Tm} {H:Hp} {nx:Nat} {K:SP} (hf:Free vp ops x o)
    (h:aopM vp P n (ops.map (·.dst)) x T H nx fun T1 H1 nx1=>aopM vp P n (ops.map (·.dst)) o T1 H1 nx1 K):aopM vp P n (ops.map (·.dst)) o T H nx fun T1 H1 nx1=>aopM vp P n (ops.map (·.dst)) x T1 H1 nx1 K:=by
  have hpk:=hvp.pure _ hf.k
  have hdx:=h.1
  obtain ⟨r,hr,h⟩:=aopM_pure hf.k h
  have ha:Agree ops o T (updo T x.dst r):=Agree.upd hf.l2
  have hx:∀ (q:AV) (H1:Hp) (nx1:Nat),K (updo (updo T x.dst r) o.dst q) H1 nx1→aopM vp P n (ops.map (·.dst)) x (updo T o.dst q) H1 nx1 K:=by
    intro q H1 nx1 hk
    refine aopM_of_pure hf.k hdx (v:=r) ?_ ?_
    · rw [← hr]; exact (pres_congr hpk (Agree.upd hf.l1)).symm
    · rw [← updo_comm hf.d]; exact hk
  obtain ⟨hdo,h⟩:=h
  refine ⟨hdo,?_⟩
  rw [ha.gval]
  cases hg:gval (updo T x.dst r) (ops.map (·.dst)) o.guard with
  | none=>rw [hg] at h; exact h.elim
  | some b =>
    rw [hg] at h
    cases b with
    | true =>
      have h:aop1M vp P o.op (updo T x.dst r) H nx fun q H' nx'=>K (updo (updo T x.dst r) o.dst q) H' nx':=h
      exact aop1M_mono (aop1M_congr (fun y hy=>(ha.ev y hy).symm) h) (fun q H' nx' hk=>hx q H' nx' hk)
    | false=>exact hx _ _ _ h
theorem pullM {vp:Op→Bool} (hvp:VP vp) {P:Program} {n:Nat} {ops:List Oper} {o:Oper} {l2:List Oper} {K:SP}:∀ (l1:List Oper) {T:Tm} {H:Hp} {nx:Nat},(∀ x ∈ l1,Free vp ops x o) →
    aopsM vp P n (ops.map (·.dst)) (l1 ++ o :: l2) T H nx K→aopM vp P n (ops.map (·.dst)) o T H nx fun T H nx=>aopsM vp P n (ops.map (·.dst)) (l1 ++ l2) T H nx K
  | [],_,_,_,_,h=>h
  | x :: l1,T,H,nx,hf,h=>by
    have h:aopM vp P n (ops.map (·.dst)) x T H nx fun T H nx=>aopsM vp P n (ops.map (·.dst)) (l1 ++ o :: l2) T H nx K:=h
    have h:aopM vp P n (ops.map (·.dst)) x T H nx fun T H nx=>aopM vp P n (ops.map (·.dst)) o T H nx fun T H nx=>aopsM vp P n (ops.map (·.dst)) (l1 ++ l2) T H nx K :=
      aopM_mono h (fun r H1 nx1 h=>pullM hvp l1 (fun y hy=>hf y (by simp [hy])) h)
    exact swapM hvp (hf x (by simp)) h
def freeB (vp:Op→Bool) (ops:List Oper) (x o:Oper):Bool :=
  (match o.dst with | some t=>x.dst != some t && !(x.looksAt ops.toArray).contains t | none=>true) &&
  (match x.dst with | some t=>!(o.looksAt ops.toArray).contains t | none=>true) && vp x.op
theorem freeB_ok {vp:Op→Bool} {ops:List Oper} {x o:Oper} (h:freeB vp ops x o=true):Free vp ops x o:=by
  unfold freeB at h
  simp only [Bool.and_eq_true] at h
  obtain ⟨⟨h1,h2⟩,h3⟩:=h
  refine ⟨fun t ht=>?_,fun t ht=>?_,fun t ht=>?_,h3⟩
  · rw [ht] at h1; simp at h1; exact h1.1
  · rw [ht] at h1; simp at h1; exact h1.2
  · rw [ht] at h2; simp at h2; exact h2
def pairsB (r:Nat→Nat→Bool):List Nat→Bool
  | []=>true
  | k :: l=>l.all (r k) && pairsB r l
theorem pairsB_ok {r:Nat→Nat→Bool}:∀ {l:List Nat},pairsB r l=true→l.Pairwise (fun k i=>r k i=true)
  | [],_=>List.Pairwise.nil
  | k :: l,h=>by
    simp only [pairsB,Bool.and_eq_true,List.all_eq_true] at h
    exact List.Pairwise.cons h.1 (pairsB_ok h.2)
def mixOk (vp:Op→Bool) (n:Nat) (ops:List Oper) (C:List Nat):Bool :=
  let m:=Region.before ops.toArray
  let len:=ops.length
  ((List.range len).all fun j=>(direct (ops.getD j default)).all fun k=>k < j) &&
  ((List.range len).all fun j=>(List.range len).all fun i=>!mbit m j i || (direct (ops.getD j default)).any fun k=>k == i || mbit m k i) &&
  (pairsB (fun k i=>k != i && ((ops.getD i default).dst.isNone || (ops.getD i default).dst != (ops.getD k default).dst) && (mbit m i k || freeB vp ops (ops.getD k default) (ops.getD i default))) C) &&
  ((List.range len).all fun i=>C.contains i) && (C.all fun i=>i < len) && ((List.range len).all fun i=>dok n (ops.getD i default).dst)
structure MixOk (vp:Op→Bool) (n:Nat) (ops:List Oper) (C:List Nat):Prop where
  dir:∀ (j:Nat) (o:Oper),ops[j]?=some o→∀ k ∈ direct o,k < j
  clo:∀ (j:Nat) (o:Oper) (i:Nat),ops[j]?=some o→i < ops.length→mbit (Region.before ops.toArray) j i=true→∃ k ∈ direct o,k=i ∨ mbit (Region.before ops.toArray) k i=true
  pw:C.Pairwise (fun k i=>k ≠ i∧(∀ t,(ops.getD i default).dst=some t→(ops.getD k default).dst ≠ some t)∧(mbit (Region.before ops.toArray) i k=true ∨ Free vp ops (ops.getD k default) (ops.getD i default)))
  all:∀ i,i < ops.length→i ∈ C
  lt:∀ i ∈ C,i < ops.length
  dk:∀ (i:Nat) (o:Oper),ops[i]?=some o→dok n o.dst=true
theorem mixOk_ok {vp:Op→Bool} {n:Nat} {ops:List Oper} {C:List Nat} (h:mixOk vp n ops C=true):MixOk vp n ops C:=by
  simp only [mixOk,Bool.and_eq_true,List.all_eq_true,List.mem_range,decide_eq_true_eq] at h
  obtain ⟨⟨⟨⟨⟨h1,h2⟩,h3⟩,h4⟩,h5⟩,h6⟩:=h
  have hlt:=fun {k:Nat} {o:Oper} (hk:ops[k]?=some o)=>(List.getElem?_eq_some_iff.1 hk).1
  refine ⟨fun j o ho k hk=>?_,fun j o i ho hi hb=>?_,(pairsB_ok h3).imp (fun {k i} h=>?_),fun i hi=>by simpa using h4 i hi,h5,fun i o ho=>?_⟩
  · have:=h1 j (hlt ho) k; rw [getD_of ho] at this; exact this hk
  · have:=h2 j (hlt ho) i hi
    rw [getD_of ho,hb] at this
    simp only [Bool.not_true,Bool.false_or,List.any_eq_true,Bool.or_eq_true,beq_iff_eq] at this
    exact this
  · simp only [Bool.and_eq_true,Bool.or_eq_true] at h
    obtain ⟨⟨h7,h8⟩,h9⟩:=h
    refine ⟨by simpa using h7,fun t ht=>?_,h9.imp id freeB_ok⟩
    rw [ht] at h8
    simp at h8
    exact fun e=>h8 e.symm
  · have:=h6 i (hlt ho); rw [getD_of ho] at this; exact this
def restI (C:List Nat) (L:Array Bool):List Nat:=C.filter fun k=>!L.getD k false
structure MInv (vp:Op→Bool) (P:Program) (N:Cfg) (ops:List Oper) (C:List Nat) (K:SP) (E₀:Env) (w₀:World) (L:Array Bool) (a:Act) (w:World) (E:Env) (T:Tm) (H:Hp) (nx:Nat):Prop where
  lsz:L.size=ops.length
  dc:∀ j i,L.getD j false=true→mbit (Region.before ops.toArray) j i=true→i < ops.length→L.getD i false=true
  ext:Ext E₀ w₀ E w
  sim:Sim E N ⟨T,H,nx⟩ a w
  rest:aopsM vp P N.n (ops.map (·.dst)) ((restI C L).map fun k=>ops.getD k default) T H nx K
variable {vp:Op→Bool} {P:Program} {N:Cfg} {ops:List Oper} {C:List Nat} {K:SP} {E₀:Env} {w₀:World} {L:Array Bool} {a:Act} {w:World} {E:Env} {T:Tm} {H:Hp} {nx:Nat}
theorem rest_split (hC:C.Pairwise (fun k i=>k ≠ i∧(∀ t,(ops.getD i default).dst=some t→(ops.getD k default).dst ≠ some t)∧(mbit (Region.before ops.toArray) i k=true ∨ Free vp ops (ops.getD k default) (ops.getD i default))))
    {i:Nat} (hi:i ∈ restI C L) (hil:i < L.size):∃ l1 l2,restI C L=l1 ++ i :: l2∧restI C (L.setIfInBounds i true)=l1 ++ l2 ∧
      (∀ k ∈ l1,mbit (Region.before ops.toArray) i k=true ∨ Free vp ops (ops.getD k default) (ops.getD i default))∧(∀ k ∈ l1 ++ l2,∀ t,(ops.getD k default).dst=some t→(ops.getD i default).dst ≠ some t):=by
  obtain ⟨l1,l2,e⟩:=List.append_of_mem hi
  have hp:(restI C L).Pairwise _:=hC.filter _
  rw [e] at hp
  obtain ⟨p1,p2,p3⟩:=List.pairwise_append.1 hp
  obtain ⟨p4,p5⟩:=List.pairwise_cons.1 p2
  refine ⟨l1,l2,e,?_,fun k hk=>(p3 k hk i (by simp)).2.2,fun k hk t ht he=>?_⟩
  · have e2:restI C (L.setIfInBounds i true)=(restI C L).filter fun k=>decide (k ≠ i):=by
      unfold restI
      rw [List.filter_filter]
      refine List.filter_congr (fun k _=>?_)
      rw [getD_set L i k hil]
      by_cases h:k=i <;> simp [h]
    rw [e2,e,List.filter_append,List.filter_cons]
    have n1:l1.filter (fun k=>decide (k ≠ i))=l1:=List.filter_eq_self.2 (fun k hk=>decide_eq_true (p3 k hk i (by simp)).1)
    have n2:l2.filter (fun k=>decide (k ≠ i))=l2:=List.filter_eq_self.2 (fun k hk=>decide_eq_true (fun h=>(p4 k hk).1 h.symm))
    rw [n1,n2]; simp
  · rcases List.mem_append.1 hk with h | h
    · exact (p3 k h i (by simp)).2.1 t he ht
    · exact (p4 k h).2.1 t ht he
theorem MInv.bits (hI:MInv vp P N ops C K E₀ w₀ L a w E T H nx) (hok:MixOk vp N.n ops C) {i:Nat} {o:Oper} (hr:Ready ops L i o) {k:Nat} (hk:k < ops.length) (hb:mbit (Region.before ops.toArray) i k=true):L.getD k false=true:=by
  obtain ⟨q,hq,h⟩:=hok.clo i o k hr.get hk hb
  rcases h with rfl | h
  · exact hr.dir _ hq
  · exact hI.dc q k (hr.dir _ hq) h hk
theorem MInv.step (hvp:VP vp) {rr:Option Nat} {Q:Exit→Act→World→Prop} {K':Act→World→Prop} (hI:MInv vp P N ops C K E₀ w₀ L a w E T H nx) (hok:MixOk vp N.n ops C) {i:Nat} {o:Oper} (hr:Ready ops L i o)
    (hK:∀ a' w' E' T' H' nx',MInv vp P N ops C K E₀ w₀ (L.setIfInBounds i true) a' w' E' T' H' nx'→K' a' w'):wpOpIn (FW rr) 0 P ops.toArray Q i K' a w:=by
  have hi:i < ops.length:=(List.getElem?_eq_some_iff.1 hr.get).1
  have hgeti:(ops.toArray)[i]?=some o:=by simpa using hr.get
  unfold wpOpIn
  rw [hgeti]
  simp only
  have hmem:i ∈ restI C L:=List.mem_filter.2 ⟨hok.all i hi,by rw [hr.not]; rfl⟩
  obtain ⟨l1,l2,e1,e2,f1,f2⟩:=rest_split hok.pw hmem (by rw [hI.lsz]; exact hi)
  have hgo:ops.getD i default=o:=getD_of hr.get
  have hfree:∀ k ∈ l1,Free vp ops (ops.getD k default) o:=by
    intro k hk
    rcases f1 k hk with h | h
    · have hkC:k ∈ restI C L:=by rw [e1]; simp [hk]
      obtain ⟨h1,h2⟩:=List.mem_filter.1 hkC
      have:=hI.bits hok hr (hok.lt k h1) h
      rw [this] at h2; cases h2
    · rw [hgo] at h; exact h
  have hrest:=hI.rest
  rw [e1,List.map_append,List.map_cons,hgo] at hrest
  have hpull:=pullM hvp (l1.map fun k=>ops.getD k default) (fun x hx=>by
    obtain ⟨k,hk,rfl⟩:=List.mem_map.1 hx
    exact hfree k hk) hrest
  have hpull2:aopM vp P N.n (ops.map (·.dst)) o T H nx fun T' H' nx'=>aopsM vp P N.n (ops.map (·.dst)) ((l1 ++ l2).map fun k=>ops.getD k default) T' H' nx' K :=
    aopM_mono hpull (fun r H1 nx1 h=>by rw [List.map_append]; exact h)
  have hset:=fun k=>getD_set L i k (by rw [hI.lsz]; exact hi)
  have hs:=aop_sound (rr:=rr) (ops:=ops.toArray) (Q:=Q) (next:=K') hI.sim (aopM_aop hvp hpull2) (fun E' T' H' nx' a' w' he hS hk=>?_)
  · exact hs
  · refine hK a' w' E' T' H' nx' ⟨by simp [hI.lsz],?_,hI.ext.trans he,hS,by rw [e2]; exact hk⟩
    intro j k hj hb hkl
    rw [hset] at hj ⊢
    by_cases hki:k=i
    · rw [if_pos hki]
    · rw [if_neg hki]
      by_cases hji:j=i
      · subst hji; exact hI.bits hok hr hkl hb
      · rw [if_neg hji] at hj; exact hI.dc j k hj hb hkl
theorem MInv.some_ready (hI:MInv vp P N ops C K E₀ w₀ L a w E T H nx) (hok:MixOk vp N.n ops C) (h:Region.ready .any ops.toArray L=[]):∀ k,k < ops.length→L.getD k false=true:=by
  rcases least L ops.length with h1 | ⟨k,hk,hn,hall⟩
  · exact h1
  · exfalso
    obtain ⟨o,ho⟩:=exists_get hk
    have:k ∈ Region.ready .any ops.toArray L:=by
      refine mem_ready.2 ⟨?_,o,by simpa using ho,fun e he hb=>hall _ ?_⟩
      · have:k < L.size:=by rw [hI.lsz]; exact hk
        simp [this] at hn ⊢; exact hn
      · refine hok.dir k o ho e.on ?_
        simp only [direct,List.mem_map,List.mem_filter]
        exact ⟨e,⟨by simpa using he,hb⟩,rfl⟩
    rw [h] at this; cases this
theorem MInv.final (hI:MInv vp P N ops C K E₀ w₀ L a w E T H nx) (hok:MixOk vp N.n ops C) (hall:∀ k,k < ops.length→L.getD k false=true):K T H nx:=by
  have:restI C L=[]:=List.filter_eq_nil_iff.2 (fun k hk=>by simp [hall k (hok.lt k hk)])
  have h:=hI.rest
  rw [this] at h
  exact h
theorem any_mix (hvp:VP vp) {rr:Option Nat} {Q:Exit→Act→World→Prop} (hok:MixOk vp N.n ops C) (hQ:∀ E' T' H' nx' a' w',Ext E₀ w₀ E' w'→Sim E' N ⟨T',H',nx'⟩ a' w'→K T' H' nx'→Q .normal a' w') :
    ∀ (fuel:Nat) (L:Array Bool) (a:Act) (w:World) (E:Env) (T:Tm) (H:Hp) (nx:Nat),MInv vp P N ops C K E₀ w₀ L a w E T H nx→left ops.length L ≤ fuel→wpAnyIn (FW rr) 0 P .any ops.toArray Q fuel L a w
  | 0,L,a,w,E,T,H,nx,hI,hl=>by
    have hall:∀ k,k < ops.length→L.getD k false=true:=by
      rcases least L ops.length with h1 | ⟨k,hk,hn,hall⟩
      · exact h1
      · exfalso
        have:left ops.length (L.setIfInBounds k true) < left ops.length L:=left_set L k _ hk hI.lsz hn
        omega
    have hr:Region.ready .any ops.toArray L=[]:=by
      refine List.eq_nil_iff_forall_not_mem.2 (fun i hi=>?_)
      obtain ⟨o,ho⟩:=ready_of hI.lsz hi
      have:=hall i (List.getElem?_eq_some_iff.1 ho.get).1
      rw [ho.not] at this; cases this
    exact ⟨hr,hQ E T H nx a w hI.ext hI.sim (hI.final hok hall)⟩
  | fuel + 1,L,a,w,E,T,H,nx,hI,hl=>by
    refine ⟨fun hr=>hQ E T H nx a w hI.ext hI.sim (hI.final hok (hI.some_ready hok hr)),fun i hi=>?_⟩
    obtain ⟨o,ho⟩:=ready_of hI.lsz hi
    refine hI.step hvp hok ho (fun a' w' E' T' H' nx' hI'=>any_mix hvp hok hQ fuel _ a' w' E' T' H' nx' hI' ?_)
    have:=left_set L i ops.length (List.getElem?_eq_some_iff.1 ho.get).1 hI.lsz ho.not
    omega
theorem wp_mix {rr:Option Nat} {Q:Exit→Act→World→Prop} {rid:Nat} (hm:P.follows .mixedOrders=true) (hvp:VP vp) (hok:mixOk vp N.n ops C=true) (hS:Sim E₀ N ⟨T,H,nx⟩ a w₀) 
    (h:aopsM vp P N.n (ops.map (·.dst)) (C.map fun k=>ops.getD k default) T H nx K)
    (hQ:∀ E' T' H' nx' a' w',Ext E₀ w₀ E' w'→Sim E' N ⟨T',H',nx'⟩ a' w'→K T' H' nx'→Q .normal a' w'):(Code.region rid ops.toArray true).wpIn (FW rr) 0 P Q a w₀:=by
  refine wpIn_region_any hm ?_
  have hdr:({ w₀ with drawn:=w₀.drawn + 1 }:World).heap=w₀.heap:=rfl
  have hext:Ext E₀ w₀ E₀ { w₀ with drawn:=w₀.drawn + 1 }:=Ext.same hdr
  have hok:=mixOk_ok hok
  have hfalse:∀ k,(Array.replicate ops.toArray.size false).getD k false=false:=by
    intro k
    simp only [Array.getD_eq_getD_getElem?,Array.getElem?_replicate]
    split <;> rfl
  have hrest:restI C (Array.replicate ops.toArray.size false)=C:=List.filter_eq_self.2 (fun k _=>by rw [hfalse]; rfl)
  refine any_mix (C:=C) (K:=K) (E₀:=E₀) (w₀:=w₀) hvp hok hQ _ _ _ _ E₀ T H nx ⟨by simp,?_,hext,?_,by rw [hrest]; exact h⟩ (by rw [List.size_toArray]; unfold left; exact Nat.le_trans List.countP_le_length (by simp))
  · intro j i h1; rw [hfalse] at h1; cases h1
  · exact ⟨hS.env.drew,hS.heap.same hdr,hS.fresh,hS.round,hS.floor,hS.size,fun t=>(hS.tmps t).ext hext,hS.defers.ext hext⟩
end Go.Abs
namespace Go.Abs
open Go.RowKit
def Sub (S H:Hp):Prop:=∀ b cs,S b=some cs→H b=some cs
theorem rd1_sub {S H:Hp} (h:Sub S H) {p x:AV} (hr:rd1 S p=some x):rd1 H p=some x:=by
  unfold rd1 at hr ⊢
  split at hr
  · rename_i b n off
    cases hb:S b with
    | none=>rw [hb] at hr; cases hr
    | some cs=>rw [hb] at hr; simp only [h b cs hb]; exact hr
  · exact hr
  · cases hr
theorem rd_sub {S H:Hp} (h:Sub S H) {k:Nat} {p:AV} {x:List AV} (hr:rd S k p=some x):rd H k p=some x:=by
  unfold rd at hr ⊢
  split at hr
  · rename_i b n off
    cases hb:S b with
    | none=>rw [hb] at hr; cases hr
    | some cs=>rw [hb] at hr; simp only [h b cs hb]; exact hr
  · exact hr
  · cases hr
theorem load_sub {P:Program} {T:Tm} {S H:Hp} (h:Sub S H) {op:Op} (hl:isLoad op=true) {r:AV} (hr:aval P T S op=some r):aval P T H op=some r:=by
  cases op <;> first | (cases hl; done) | skip
  simp only [aval] at hr ⊢
  unfold aload at hr ⊢
  split at hr
  · split at hr
    · split at hr
      · rw [Option.map_eq_some_iff] at hr
        obtain ⟨x,hx,rfl⟩:=hr
        rename_i h0 h1 h2
        rw [if_pos h0,if_pos h1,if_pos h2,rd_sub h hx]; rfl
      · cases hr
    · rename_i h0 h1
      rw [if_pos h0,if_neg h1]; exact rd1_sub h hr
  · cases hr
def sv (vp:Op→Bool) (op:Op):Bool:=vp op || isLoad op
def isBld:Op→Bool
  | .buildSlice ..=>true
  | _=>false
def bldRes:Option (AV × Hp × Nat)→Option AV
  | some (.msl 0 _ 1 0 len,H',_)=>match H' 0 with
    | some cs=>if len=cs.length∧len ≠ 0∧cs.all AV.one=true then some (.sl 1 cs) else none
    | none=>none
  | _=>none
def abld (P:Program) (T:Tm) (op:Op):Option AV:=if isBld op=true then bldRes (aeff P T noBoxes 0 op) else none
theorem bldRes_elim {x:Option (AV × Hp × Nat)} {r:AV} (h:bldRes x=some r):∃ n H' k cs,x=some (.msl 0 n 1 0 cs.length,H',k)∧H' 0=some cs∧cs.length ≠ 0∧cs.all AV.one=true∧r=.sl 1 cs:=by
  unfold bldRes at h
  split at h
  · rename_i n len H' k
    split at h
    · rename_i cs hcs
      split at h
      · rename_i hc
        obtain ⟨hl,h0,ho⟩:=hc
        cases h
        subst hl
        exact ⟨n,H',k,cs,rfl,hcs,h0,ho,rfl⟩
      · cases h
    · cases h
  · cases h
theorem abld_congr {P:Program} {op:Op} {T T':Tm} (he:∀ x ∈ op.operands,ev T x=ev T' x):abld P T op=abld P T' op:=by
  unfold abld
  rw [aeff_congr he]
theorem bld_alloc {op:Op} (h:isBld op=true):opk op=.alloc:=by
  cases op <;> first | (cases h; done) | rfl
theorem one_cells {x:AV} (h:x.one=true):x.cells=[x]:=by cases x <;> first | rfl | (cases h; done)
theorem rel_msl_form {E:Env} {w:World} {n L blk sz:Nat} {v:Value} (hL:L ≠ 0) (h:Rel { E with mu:=fun _ _=>some (blk,sz) } w (.msl 0 n 1 0 L) v):∃ cap,v=.slice (some ⟨blk,0,none⟩) L cap∧L ≤ cap:=by
  cases h with
  | msl b n sz off len blk bsz cap hm hl hc hn =>
    simp only [Option.some.injEq,Prod.mk.injEq] at hm
    obtain ⟨rfl,rfl⟩:=hm
    exact ⟨cap,rfl,hl⟩
  | msl0 b sz v h=>exact absurd rfl hL
theorem aspec_bld {P:Program} {op:Op} {T:Tm} {H:Hp} {nx:Nat} {K:AV→Hp→Nat→Prop} {r:AV} (h:abld P T op=some r) (hk:K r H nx):aspec P op T H nx K:=by
  unfold abld at h
  split at h
  case isFalse=>cases h
  case isTrue hb =>
  obtain ⟨n,H1,k,cs,h1,h2,h0,h3,rfl⟩:=bldRes_elim h
  refine ⟨fun c hc=>(by rw [hc] at hb; cases hb),?_⟩
  rintro rr E w a o next Q ho hE hh hf ht hn
  have h1':aeff P T noBoxes 0 o.op=some (.msl 0 n 1 0 cs.length,H1,k):=by rw [ho]; exact h1
  obtain ⟨s,hs,hrun⟩:=aeff_alloc (E:=E) (w:=w) (a:=a) (bld_alloc (by rw [ho]; exact hb)) (by rw [ho]; exact ht) h1'
  unfold ARun at hrun
  rcases hrun with hrun | ⟨cells,vals,ty,v,hH,_,hrun,hlen,hrel,hv⟩
  · rw [hrun.2.1] at h2; cases h2
  rw [hH] at h2
  have h2:cells=cs:=by simpa [hupd] using h2
  subst h2
  obtain ⟨cap,rfl,hcap⟩:=rel_msl_form h0 (hv { E with mu:=fun _ _=>some (w.heap.size,vals.size) } w rfl)
  have hbw:Below w.heap.size w (w.alloc (.cells vals ty)):=(Below.refl _ _).alloc (Nat.le_refl _) _
  have hnew:(w.alloc (.cells vals ty)).heap[w.heap.size]?=some (.cells vals ty (0,0)):=by
    show (w.heap.push (.cells vals ty))[w.heap.size]?=_
    simp
  have hsz:(w.alloc (.cells vals ty)).heap.size=w.heap.size + 1:=by
    show (w.heap.push (.cells vals ty)).size=_
    simp
  have he:Ext E w { E with imm:=fun b=>E.imm b ∨ b=w.heap.size } (w.alloc (.cells vals ty)) :=
    ⟨rfl,rfl,fun _ h=>.inl h,fun b h=>h.imp id (fun h=>by rw [h]; exact hh.size),fun _ _ _ h=>h,fun _ _ h=>h,fun _ _ h=>h,fun b h=>⟨h,hbw.block b (hE.dlt h)⟩,hbw.size,fun b h=>hbw.block b (hE.lt b h)⟩
  have hE':EnvOk { E with imm:=fun b=>E.imm b ∨ b=w.heap.size } (w.alloc (.cells vals ty)) :=
    hE.step he (fun b h=>h.imp id (fun h=>by rw [hsz,h]; omega)) (fun k hk=>hk.imp id (fun hge b hb'=>by have:=hE.splt hb'; omega)) (hbw.mono hh.size) (Below.still hbw) rfl rfl rfl (fun _ _ _ _=>rfl)
  have hh':=hh.below he hbw rfl (fun b h=>h.imp id (fun h=>by rw [h]; omega)) rfl
  rw [hs]
  simp only [Sem.run_bind,hrun,Result.andThen_ok,Sem.run_pure]
  rw [Oper.uponIn_value]
  refine hn _ H nx (.sl 1 cells) _ _ he hE' hh' (hf.of (Nat.le_refl _) (fun _ _ _=>rfl) rfl rfl) ?_ hk
  refine .sl 1 cells w.heap.size 0 cap (fun i=>vals.getD i Go.undef) (.inr rfl) hcap (fun x hx=>by rw [one_cells (List.all_eq_true.1 h3 x hx)]; rfl) (fun i hi=>?_) (fun i j x y hx hy=>?_)
  · rw [Nat.zero_add]
    refine cell?_of_heap hnew ?_
    have:i < vals.size:=by omega
    simp [Array.getD,this]
  · have hone:=one_cells (List.all_eq_true.1 h3 x (List.mem_of_getElem? hx))
    rw [hone] at hy
    have hj:j=0:=by
      cases j with
      | zero=>rfl
      | succ j=>simp at hy
    subst hj
    simp only [List.getElem?_cons_zero,Option.some.injEq] at hy
    subst hy
    obtain ⟨v',h5,_,h6⟩:=hrel i x hx
    have:i < vals.size:=(Array.getElem?_eq_some_iff.1 h5).1
    rw [Nat.mul_one,Nat.add_zero]
    have e:vals.getD i Go.undef=v':=by
      rw [Array.getElem?_eq_getElem this] at h5
      cases h5
      simp [Array.getD,this]
    rw [e]
    exact h6.ext he
def nv (vp:Op→Bool) (bp:Op→Bool) (op:Op):Bool:=sv vp op || (bp op && isBld op)
def nval (P:Program) (bp:Op→Bool) (T:Tm) (S:Hp) (op:Op):Option AV:=if (bp op && isBld op)=true then abld P T op else aval P T S op
theorem nval_congr {P:Program} {bp:Op→Bool} {op:Op} {T T':Tm} {S:Hp} (he:∀ x ∈ op.operands,ev T x=ev T' x):nval P bp T S op=nval P bp T' S op:=by
  unfold nval
  rw [abld_congr he,aval_congr he]
def aop1N (vp:Op→Bool) (bp:Op→Bool) (P:Program) (S:Hp) (op:Op) (keep:Bool) (T:Tm) (H:Hp) (nx:Nat) (K:AV→Hp→Nat→Prop):Prop :=
  if nv vp bp op=true then obind (nval P bp T S op) fun r=>K r H nx else aop1 P .text op T H nx fun r H' nx'=>(keep=true→Sub S H')∧K r H' nx'
def aopN (vp:Op→Bool) (bp:Op→Bool) (P:Program) (n:Nat) (dsts:List (Option Nat)) (S:Hp) (o:Oper × Bool) (T:Tm) (H:Hp) (nx:Nat) (K:SP):Prop :=
  bbind (dok n o.1.dst) (gbind (gval T dsts o.1.guard) (aop1N vp bp P S o.1.op o.2 T H nx fun r H' nx'=>K (updo T o.1.dst r) H' nx') (K (updo T o.1.dst (.tup [])) H nx))
def aopsN (vp:Op→Bool) (bp:Op→Bool) (P:Program) (n:Nat) (dsts:List (Option Nat)) (S:Hp):List (Oper × Bool)→Tm→Hp→Nat→SP→Prop
  | [],T,H,nx,K=>K T H nx
  | o :: l,T,H,nx,K=>aopN vp bp P n dsts S o T H nx fun T H nx=>aopsN vp bp P n dsts S l T H nx K
theorem aop1N_mono {vp:Op→Bool} {bp:Op→Bool} {P:Program} {S:Hp} {op:Op} {keep:Bool} {T:Tm} {H:Hp} {nx:Nat} {K K':AV→Hp→Nat→Prop} (h:aop1N vp bp P S op keep T H nx K) (hK:∀ r H nx,K r H nx→K' r H nx):aop1N vp bp P S op keep T H nx K':=by
  unfold aop1N at h ⊢
  split
  · rename_i hp
    rw [if_pos hp] at h
    obtain ⟨a,ha,hk⟩:=obind_elim h
    rw [ha]; exact hK _ _ _ hk
  · rename_i hp
    rw [if_neg hp] at h
    exact aop1_mono h (fun r H nx hh=>⟨hh.1,hK _ _ _ hh.2⟩)
theorem aopN_mono {vp:Op→Bool} {bp:Op→Bool} {P:Program} {n:Nat} {dsts:List (Option Nat)} {S:Hp} {o:Oper × Bool} {T:Tm} {H:Hp} {nx:Nat} {K K':SP} (h:aopN vp bp P n dsts S o T H nx K) (hK:∀ r H nx,K (updo T o.1.dst r) H nx→K' (updo T o.1.dst r) H nx):aopN vp bp P n dsts S o T H nx K':=by
  refine ⟨h.1,?_⟩
  have h:=h.2
  cases hg:gval T dsts o.1.guard with
  | none=>rw [hg] at h; exact h.elim
  | some b =>
    rw [hg] at h
    cases b with
    | true=>exact aop1N_mono (K:=fun r H' nx'=>K (updo T o.1.dst r) H' nx') h (fun r H nx=>hK r H nx)
    | false=>exact hK _ _ _ h
theorem aopsN_mono {vp:Op→Bool} {bp:Op→Bool} {P:Program} {n:Nat} {dsts:List (Option Nat)} {S:Hp} {K K':SP} (hK:∀ T H nx,K T H nx→K' T H nx):∀ (l:List (Oper × Bool)) {T:Tm} {H:Hp} {nx:Nat},aopsN vp bp P n dsts S l T H nx K→aopsN vp bp P n dsts S l T H nx K'
  | [],_,_,_,h=>hK _ _ _ h
  | o :: l,_,_,_,h=>aopN_mono h (fun _ _ _=>aopsN_mono hK l)
theorem aop1N_congr {vp:Op→Bool} {bp:Op→Bool} {P:Program} {S:Hp} {op:Op} {keep:Bool} {T T':Tm} {H:Hp} {nx:Nat} {K:AV→Hp→Nat→Prop} (he:∀ x ∈ op.operands,ev T x=ev T' x) (h:aop1N vp bp P S op keep T H nx K):aop1N vp bp P S op keep T' H nx K:=by
  unfold aop1N at h ⊢
  split
  · rename_i hp
    rw [if_pos hp] at h
    rw [← nval_congr he]; exact h
  · rename_i hp
    rw [if_neg hp] at h
    rcases h with h | h
    · exact .inl (aop1o_congr he h)
    · exact .inr ⟨h.1,aspec_congr he h.2⟩
theorem aopN_aop {vp:Op→Bool} {bp:Op→Bool} (hv:VP vp) {P:Program} {n:Nat} {dsts:List (Option Nat)} {S:Hp} {o:Oper × Bool} {T:Tm} {H:Hp} {nx:Nat} {K:SP} (hs:isLoad o.1.op=true→Sub S H) (h:aopN vp bp P n dsts S o T H nx K) :
    aop P n .text dsts o.1 T H nx fun T1 H1 nx1=>(H1=H ∨ (o.2=true→Sub S H1))∧K T1 H1 nx1:=by
  refine ⟨h.1,?_⟩
  have h:=h.2
  cases hg:gval T dsts o.1.guard with
  | none=>rw [hg] at h; exact h.elim
  | some b =>
    rw [hg] at h
    cases b with
    | false=>exact ⟨.inl rfl,h⟩
    | true =>
      have h:aop1N vp bp P S o.1.op o.2 T H nx fun r H' nx'=>K (updo T o.1.dst r) H' nx':=h
      show aop1 P .text o.1.op T H nx fun r H' nx'=>(H'=H ∨ (o.2=true→Sub S H'))∧K (updo T o.1.dst r) H' nx'
      unfold aop1N at h
      split at h
      · rename_i hp
        obtain ⟨r,hr,hk⟩:=obind_elim h
        by_cases hbl:(bp o.1.op && isBld o.1.op)=true
        · unfold nval at hr
          rw [if_pos hbl] at hr
          exact .inr ⟨rfl,aspec_bld hr ⟨.inl rfl,hk⟩⟩
        unfold nval at hr
        rw [if_neg hbl] at hr
        have hp:sv vp o.1.op=true:=by
          unfold nv at hp
          rw [Bool.or_eq_true] at hp
          exact hp.resolve_right hbl
        have hval:aval P T H o.1.op=some r∧opc o.1.op=.val:=by
          unfold sv at hp
          rw [Bool.or_eq_true] at hp
          rcases hp with hp | hp
          · exact ⟨by rw [aval_pure (H':=S) (hv.pure _ hp)]; exact hr,opc_pure (hv.pure _ hp)⟩
          · refine ⟨load_sub (hs hp) hp hr,?_⟩
            revert hp
            cases o.1.op <;> intro hp <;> first | (cases hp; done) | rfl
        left
        unfold aop1o
        rw [hval.2]
        refine ⟨rfl,?_⟩
        rw [hval.1]
        exact ⟨.inl rfl,hk⟩
      · exact aop1_mono h (fun r H' nx' hh=>⟨.inr hh.1,hh.2⟩)
def presN (P:Program) (bp:Op→Bool) (dsts:List (Option Nat)) (o:Oper) (T:Tm) (H:Hp):Option AV:=match gval T dsts o.guard with
  | some true=>nval P bp T H o.op
  | some false=>some (.tup [])
  | none=>none
structure FreeN (vp:Op→Bool) (bp:Op→Bool) (ops:List Oper) (x o:Oper):Prop where
  d:∀ t,o.dst=some t→x.dst ≠ some t
  l1:∀ t,o.dst=some t→t ∉ x.looksAt ops.toArray
  l2:∀ t,x.dst=some t→t ∉ o.looksAt ops.toArray
  k:nv vp bp x.op=true
theorem aopN_val {vp:Op→Bool} {bp:Op→Bool} {P:Program} {n:Nat} {dsts:List (Option Nat)} {S:Hp} {o:Oper × Bool} {T:Tm} {H:Hp} {nx:Nat} {K:SP} (hp:nv vp bp o.1.op=true) (h:aopN vp bp P n dsts S o T H nx K):∃ v,presN P bp dsts o.1 T S=some v∧K (updo T o.1.dst v) H nx:=by
  obtain ⟨_,h⟩:=h
  unfold presN
  cases hg:gval T dsts o.1.guard with
  | none=>rw [hg] at h; exact h.elim
  | some b =>
    rw [hg] at h
    cases b with
    | true =>
      have h:aop1N vp bp P S o.1.op o.2 T H nx fun r H' nx'=>K (updo T o.1.dst r) H' nx':=h
      unfold aop1N at h
      rw [if_pos hp] at h
      exact obind_elim h
    | false=>exact ⟨_,rfl,h⟩
theorem aopN_of_val {vp:Op→Bool} {bp:Op→Bool} {P:Program} {n:Nat} {dsts:List (Option Nat)} {S:Hp} {o:Oper × Bool} {T:Tm} {H:Hp} {nx:Nat} {K:SP} (hp:nv vp bp o.1.op=true) (hd:dok n o.1.dst=true) {v:AV} (hv:presN P bp dsts o.1 T S=some v) (hk:K (updo T o.1.dst v) H nx):aopN vp bp P n dsts S o T H nx K:=by
  refine ⟨hd,?_⟩
  unfold presN at hv
  cases hg:gval T dsts o.1.guard with
  | none=>rw [hg] at hv; cases hv
  | some b =>
    rw [hg] at hv
    cases b with
    | true =>
      show aop1N vp bp P S o.1.op o.2 T H nx _
      unfold aop1N
      rw [if_pos hp]
      have hv:nval P bp T S o.1.op=some v:=hv
      rw [hv]; exact hk
    | false=>cases hv; exact hk
theorem presN_congr {P:Program} {bp:Op→Bool} {ops:List Oper} {o:Oper} {T T':Tm} {S:Hp} (ha:Agree ops o T T'):presN P bp (ops.map (·.dst)) o T S=presN P bp (ops.map (·.dst)) o T' S:=by
  unfold presN
  rw [ha.gval]
  cases gval T' (ops.map (·.dst)) o.guard with
  | none=>rfl
  | some b =>
    cases b with
    | true=>simp only; rw [nval_congr ha.ev]
    | false=>rfl
theorem swapN {vp:Op→Bool} {bp:Op→Bool} {P:Program} {n:Nat} {ops:List Oper} {S:Hp} {x o:Oper × Bool} {T:Tm} {H:Hp} {nx:Nat} {K:SP} (hf:FreeN vp bp ops x.1 o.1)
    (h:aopN vp bp P n (ops.map (·.dst)) S x T H nx fun T1 H1 nx1=>aopN vp bp P n (ops.map (·.dst)) S o T1 H1 nx1 K):aopN vp bp P n (ops.map (·.dst)) S o T H nx fun T1 H1 nx1=>aopN vp bp P n (ops.map (·.dst)) S x T1 H1 nx1 K:=by
  have hdx:=h.1
  obtain ⟨r,hr,h⟩:=aopN_val hf.k h
  have ha:Agree ops o.1 T (updo T x.1.dst r):=Agree.upd hf.l2
  have hx:∀ (q:AV) (H1:Hp) (nx1:Nat),K (updo (updo T x.1.dst r) o.1.dst q) H1 nx1→aopN vp bp P n (ops.map (·.dst)) S x (updo T o.1.dst q) H1 nx1 K:=by
    intro q H1 nx1 hk
    refine aopN_of_val hf.k hdx (v:=r) ?_ ?_
    · rw [← hr]; exact (presN_congr (Agree.upd hf.l1)).symm
    · rw [← updo_comm hf.d]; exact hk
  obtain ⟨hdo,h⟩:=h
  refine ⟨hdo,?_⟩
  rw [ha.gval]
  cases hg:gval (updo T x.1.dst r) (ops.map (·.dst)) o.1.guard with
  | none=>rw [hg] at h; exact h.elim
  | some b =>
    rw [hg] at h
    cases b with
    | true =>
      have h:aop1N vp bp P S o.1.op o.2 (updo T x.1.dst r) H nx fun q H' nx'=>K (updo (updo T x.1.dst r) o.1.dst q) H' nx':=h
      exact aop1N_mono (aop1N_congr (fun y hy=>(ha.ev y hy).symm) h) (fun q H' nx' hk=>hx q H' nx' hk)
    | false=>exact hx _ _ _ h
theorem pullN {vp:Op→Bool} {bp:Op→Bool} {P:Program} {n:Nat} {ops:List Oper} {S:Hp} {o:Oper × Bool} {l2:List (Oper × Bool)} {K:SP}:∀ (l1:List (Oper × Bool)) {T:Tm} {H:Hp} {nx:Nat},(∀ x ∈ l1,FreeN vp bp ops x.1 o.1) →
    aopsN vp bp P n (ops.map (·.dst)) S (l1 ++ o :: l2) T H nx K→aopN vp bp P n (ops.map (·.dst)) S o T H nx fun T H nx=>aopsN vp bp P n (ops.map (·.dst)) S (l1 ++ l2) T H nx K
  | [],_,_,_,_,h=>h
  | x :: l1,T,H,nx,hf,h=>by
    have h:aopN vp bp P n (ops.map (·.dst)) S x T H nx fun T H nx=>aopsN vp bp P n (ops.map (·.dst)) S (l1 ++ o :: l2) T H nx K:=h
    have h:aopN vp bp P n (ops.map (·.dst)) S x T H nx fun T H nx=>aopN vp bp P n (ops.map (·.dst)) S o T H nx fun T H nx=>aopsN vp bp P n (ops.map (·.dst)) S (l1 ++ l2) T H nx K :=
      aopN_mono h (fun r H1 nx1 h=>pullN l1 (fun y hy=>hf y (by simp [hy])) h)
    exact swapN (hf x (by simp)) h
def freeNB (vp:Op→Bool) (bp:Op→Bool) (ops:List Oper) (x o:Oper):Bool :=
  (match o.dst with | some t=>x.dst != some t && !(x.looksAt ops.toArray).contains t | none=>true) &&
  (match x.dst with | some t=>!(o.looksAt ops.toArray).contains t | none=>true) && nv vp bp x.op
theorem freeNB_ok {vp:Op→Bool} {bp:Op→Bool} {ops:List Oper} {x o:Oper} (h:freeNB vp bp ops x o=true):FreeN vp bp ops x o:=by
  unfold freeNB at h
  simp only [Bool.and_eq_true] at h
  obtain ⟨⟨h1,h2⟩,h3⟩:=h
  refine ⟨fun t ht=>?_,fun t ht=>?_,fun t ht=>?_,h3⟩
  · rw [ht] at h1; simp at h1; exact h1.1
  · rw [ht] at h1; simp at h1; exact h1.2
  · rw [ht] at h2; simp at h2; exact h2
def keepI (ops:List Oper) (i:Nat):Bool:=(List.range ops.length).any fun j=>j != i && isLoad (ops.getD j default).op && !mbit (Region.before ops.toArray) i j
def mixNOk (vp:Op→Bool) (bp:Op→Bool) (n:Nat) (ops:List Oper) (C:List Nat):Bool :=
  let m:=Region.before ops.toArray
  let len:=ops.length
  ((List.range len).all fun j=>(direct (ops.getD j default)).all fun k=>k < j) &&
  ((List.range len).all fun j=>(List.range len).all fun i=>!mbit m j i || (direct (ops.getD j default)).any fun k=>k == i || mbit m k i) &&
  (pairsB (fun k i=>k != i && ((ops.getD i default).dst.isNone || (ops.getD i default).dst != (ops.getD k default).dst) && (mbit m i k || freeNB vp bp ops (ops.getD k default) (ops.getD i default))) C) &&
  ((List.range len).all fun i=>C.contains i) && (C.all fun i=>i < len) && ((List.range len).all fun i=>dok n (ops.getD i default).dst)
structure MixNOk (vp:Op→Bool) (bp:Op→Bool) (n:Nat) (ops:List Oper) (C:List Nat):Prop where
  dir:∀ (j:Nat) (o:Oper),ops[j]?=some o→∀ k ∈ direct o,k < j
  clo:∀ (j:Nat) (o:Oper) (i:Nat),ops[j]?=some o→i < ops.length→mbit (Region.before ops.toArray) j i=true→∃ k ∈ direct o,k=i ∨ mbit (Region.before ops.toArray) k i=true
  pw:C.Pairwise (fun k i=>k ≠ i∧(∀ t,(ops.getD i default).dst=some t→(ops.getD k default).dst ≠ some t)∧(mbit (Region.before ops.toArray) i k=true ∨ FreeN vp bp ops (ops.getD k default) (ops.getD i default)))
  all:∀ i,i < ops.length→i ∈ C
  lt:∀ i ∈ C,i < ops.length
  dk:∀ (i:Nat) (o:Oper),ops[i]?=some o→dok n o.dst=true
theorem mixNOk_ok {vp:Op→Bool} {bp:Op→Bool} {n:Nat} {ops:List Oper} {C:List Nat} (h:mixNOk vp bp n ops C=true):MixNOk vp bp n ops C:=by
  simp only [mixNOk,Bool.and_eq_true,List.all_eq_true,List.mem_range,decide_eq_true_eq] at h
  obtain ⟨⟨⟨⟨⟨h1,h2⟩,h3⟩,h4⟩,h5⟩,h6⟩:=h
  have hlt:=fun {k:Nat} {o:Oper} (hk:ops[k]?=some o)=>(List.getElem?_eq_some_iff.1 hk).1
  refine ⟨fun j o ho k hk=>?_,fun j o i ho hi hb=>?_,(pairsB_ok h3).imp (fun {k i} h=>?_),fun i hi=>by simpa using h4 i hi,h5,fun i o ho=>?_⟩
  · have:=h1 j (hlt ho) k; rw [getD_of ho] at this; exact this hk
  · have:=h2 j (hlt ho) i hi
    rw [getD_of ho,hb] at this
    simp only [Bool.not_true,Bool.false_or,List.any_eq_true,Bool.or_eq_true,beq_iff_eq] at this
    exact this
  · simp only [Bool.and_eq_true,Bool.or_eq_true] at h
    obtain ⟨⟨h7,h8⟩,h9⟩:=h
    refine ⟨by simpa using h7,fun t ht=>?_,h9.imp id freeNB_ok⟩
    rw [ht] at h8
    simp at h8
    exact fun e=>h8 e.symm
  · have:=h6 i (hlt ho); rw [getD_of ho] at this; exact this
def pairN (ops:List Oper) (k:Nat):Oper × Bool:=(ops.getD k default,keepI ops k)
structure NInv (vp:Op→Bool) (bp:Op→Bool) (P:Program) (N:Cfg) (ops:List Oper) (C:List Nat) (S:Hp) (K:SP) (E₀:Env) (w₀:World) (L:Array Bool) (a:Act) (w:World) (E:Env) (T:Tm) (H:Hp) (nx:Nat):Prop where
  lsz:L.size=ops.length
  dc:∀ j i,L.getD j false=true→mbit (Region.before ops.toArray) j i=true→i < ops.length→L.getD i false=true
  ext:Ext E₀ w₀ E w
  sim:Sim E N ⟨T,H,nx⟩ a w
  st:∀ j,j < ops.length→isLoad (ops.getD j default).op=true→L.getD j false=false→Sub S H
  rest:aopsN vp bp P N.n (ops.map (·.dst)) S ((restI C L).map (pairN ops)) T H nx K
variable {vp:Op→Bool} {bp:Op→Bool} {P:Program} {N:Cfg} {ops:List Oper} {C:List Nat} {S:Hp} {K:SP} {E₀:Env} {w₀:World} {L:Array Bool} {a:Act} {w:World} {E:Env} {T:Tm} {H:Hp} {nx:Nat}
theorem rest_splitN (hC:C.Pairwise (fun k i=>k ≠ i∧(∀ t,(ops.getD i default).dst=some t→(ops.getD k default).dst ≠ some t)∧(mbit (Region.before ops.toArray) i k=true ∨ FreeN vp bp ops (ops.getD k default) (ops.getD i default))))
    {i:Nat} (hi:i ∈ restI C L) (hil:i < L.size):∃ l1 l2,restI C L=l1 ++ i :: l2∧restI C (L.setIfInBounds i true)=l1 ++ l2 ∧
      (∀ k ∈ l1,mbit (Region.before ops.toArray) i k=true ∨ FreeN vp bp ops (ops.getD k default) (ops.getD i default)):=by
  obtain ⟨l1,l2,e⟩:=List.append_of_mem hi
  have hp:(restI C L).Pairwise _:=hC.filter _
  rw [e] at hp
  obtain ⟨p1,p2,p3⟩:=List.pairwise_append.1 hp
  obtain ⟨p4,p5⟩:=List.pairwise_cons.1 p2
  refine ⟨l1,l2,e,?_,fun k hk=>(p3 k hk i (by simp)).2.2⟩
  have e2:restI C (L.setIfInBounds i true)=(restI C L).filter fun k=>decide (k ≠ i):=by
    unfold restI
    rw [List.filter_filter]
    refine List.filter_congr (fun k _=>?_)
    rw [getD_set L i k hil]
    by_cases h:k=i <;> simp [h]
  rw [e2,e,List.filter_append,List.filter_cons]
  have n1:l1.filter (fun k=>decide (k ≠ i))=l1:=List.filter_eq_self.2 (fun k hk=>decide_eq_true (p3 k hk i (by simp)).1)
  have n2:l2.filter (fun k=>decide (k ≠ i))=l2:=List.filter_eq_self.2 (fun k hk=>decide_eq_true (fun h=>(p4 k hk).1 h.symm))
  rw [n1,n2]; simp
theorem NInv.bits (hI:NInv vp bp P N ops C S K E₀ w₀ L a w E T H nx) (hok:MixNOk vp bp N.n ops C) {i:Nat} {o:Oper} (hr:Ready ops L i o) {k:Nat} (hk:k < ops.length) (hb:mbit (Region.before ops.toArray) i k=true):L.getD k false=true:=by
  obtain ⟨q,hq,h⟩:=hok.clo i o k hr.get hk hb
  rcases h with rfl | h
  · exact hr.dir _ hq
  · exact hI.dc q k (hr.dir _ hq) h hk
theorem NInv.step (hvp:VP vp) {rr:Option Nat} {Q:Exit→Act→World→Prop} {K':Act→World→Prop} (hI:NInv vp bp P N ops C S K E₀ w₀ L a w E T H nx) (hok:MixNOk vp bp N.n ops C) {i:Nat} {o:Oper} (hr:Ready ops L i o)
    (hK:∀ a' w' E' T' H' nx',NInv vp bp P N ops C S K E₀ w₀ (L.setIfInBounds i true) a' w' E' T' H' nx'→K' a' w'):wpOpIn (FW rr) 0 P ops.toArray Q i K' a w:=by
  have hi:i < ops.length:=(List.getElem?_eq_some_iff.1 hr.get).1
  have hgeti:(ops.toArray)[i]?=some o:=by simpa using hr.get
  unfold wpOpIn
  rw [hgeti]
  simp only
  have hmem:i ∈ restI C L:=List.mem_filter.2 ⟨hok.all i hi,by rw [hr.not]; rfl⟩
  obtain ⟨l1,l2,e1,e2,f1⟩:=rest_splitN hok.pw hmem (by rw [hI.lsz]; exact hi)
  have hgo:ops.getD i default=o:=getD_of hr.get
  have hfree:∀ k ∈ l1,FreeN vp bp ops (ops.getD k default) o:=by
    intro k hk
    rcases f1 k hk with h | h
    · have hkC:k ∈ restI C L:=by rw [e1]; simp [hk]
      obtain ⟨h1,h2⟩:=List.mem_filter.1 hkC
      have:=hI.bits hok hr (hok.lt k h1) h
      rw [this] at h2; cases h2
    · rw [hgo] at h; exact h
  have hrest:=hI.rest
  rw [e1,List.map_append,List.map_cons] at hrest
  have hpo:pairN ops i=(o,keepI ops i):=by unfold pairN; rw [hgo]
  rw [hpo] at hrest
  have hpull:=pullN (o:=(o,keepI ops i)) (l1.map (pairN ops)) (fun x hx=>by
    obtain ⟨k,hk,rfl⟩:=List.mem_map.1 hx
    exact hfree k hk) hrest
  have hpull2:aopN vp bp P N.n (ops.map (·.dst)) S (o,keepI ops i) T H nx fun T' H' nx'=>aopsN vp bp P N.n (ops.map (·.dst)) S ((l1 ++ l2).map (pairN ops)) T' H' nx' K :=
    aopN_mono hpull (fun r H1 nx1 h=>by rw [List.map_append]; exact h)
  have hset:=fun k=>getD_set L i k (by rw [hI.lsz]; exact hi)
  have hld:isLoad o.op=true→Sub S H:=fun h=>hI.st i hi (by rw [hgo]; exact h) hr.not
  have hs:=aop_sound (rr:=rr) (ops:=ops.toArray) (Q:=Q) (next:=K') hI.sim (aopN_aop hvp hld hpull2) (fun E' T' H' nx' a' w' he hS hk=>?_)
  · exact hs
  · obtain ⟨hkeep,hk⟩:=hk
    refine hK a' w' E' T' H' nx' ⟨by simp [hI.lsz],?_,hI.ext.trans he,hS,?_,by rw [e2]; exact hk⟩
    · intro j k hj hb hkl
      rw [hset] at hj ⊢
      by_cases hki:k=i
      · rw [if_pos hki]
      · rw [if_neg hki]
        by_cases hji:j=i
        · subst hji; exact hI.bits hok hr hkl hb
        · rw [if_neg hji] at hj; exact hI.dc j k hj hb hkl
    · intro j hj hl hn
      rw [hset] at hn
      by_cases hji:j=i
      · rw [if_pos hji] at hn; cases hn
      rw [if_neg hji] at hn
      rcases hkeep with rfl | hkeep
      · exact hI.st j hj hl hn
      · refine hkeep ?_
        show keepI ops i=true
        unfold keepI
        rw [List.any_eq_true]
        refine ⟨j,List.mem_range.2 hj,?_⟩
        rw [Bool.and_eq_true,Bool.and_eq_true]
        refine ⟨⟨by simpa using hji,hl⟩,?_⟩
        cases hb:mbit (Region.before ops.toArray) i j with
        | false=>rfl
        | true =>
          have:=hI.bits hok hr hj hb
          rw [this] at hn; cases hn
theorem NInv.some_ready (hI:NInv vp bp P N ops C S K E₀ w₀ L a w E T H nx) (hok:MixNOk vp bp N.n ops C) (h:Region.ready .any ops.toArray L=[]):∀ k,k < ops.length→L.getD k false=true:=by
  rcases least L ops.length with h1 | ⟨k,hk,hn,hall⟩
  · exact h1
  · exfalso
    obtain ⟨o,ho⟩:=exists_get hk
    have:k ∈ Region.ready .any ops.toArray L:=by
      refine mem_ready.2 ⟨?_,o,by simpa using ho,fun e he hb=>hall _ ?_⟩
      · have:k < L.size:=by rw [hI.lsz]; exact hk
        simp [this] at hn ⊢; exact hn
      · refine hok.dir k o ho e.on ?_
        simp only [direct,List.mem_map,List.mem_filter]
        exact ⟨e,⟨by simpa using he,hb⟩,rfl⟩
    rw [h] at this; cases this
theorem NInv.final (hI:NInv vp bp P N ops C S K E₀ w₀ L a w E T H nx) (hok:MixNOk vp bp N.n ops C) (hall:∀ k,k < ops.length→L.getD k false=true):K T H nx:=by
  have:restI C L=[]:=List.filter_eq_nil_iff.2 (fun k hk=>by simp [hall k (hok.lt k hk)])
  have h:=hI.rest
  rw [this] at h
  exact h
theorem any_mixN (hvp:VP vp) {rr:Option Nat} {Q:Exit→Act→World→Prop} (hok:MixNOk vp bp N.n ops C) (hQ:∀ E' T' H' nx' a' w',Ext E₀ w₀ E' w'→Sim E' N ⟨T',H',nx'⟩ a' w'→K T' H' nx'→Q .normal a' w') :
    ∀ (fuel:Nat) (L:Array Bool) (a:Act) (w:World) (E:Env) (T:Tm) (H:Hp) (nx:Nat),NInv vp bp P N ops C S K E₀ w₀ L a w E T H nx→left ops.length L ≤ fuel→wpAnyIn (FW rr) 0 P .any ops.toArray Q fuel L a w
  | 0,L,a,w,E,T,H,nx,hI,hl=>by
    have hall:∀ k,k < ops.length→L.getD k false=true:=by
      rcases least L ops.length with h1 | ⟨k,hk,hn,hall⟩
      · exact h1
      · exfalso
        have:left ops.length (L.setIfInBounds k true) < left ops.length L:=left_set L k _ hk hI.lsz hn
        omega
    have hr:Region.ready .any ops.toArray L=[]:=by
      refine List.eq_nil_iff_forall_not_mem.2 (fun i hi=>?_)
      obtain ⟨o,ho⟩:=ready_of hI.lsz hi
      have:=hall i (List.getElem?_eq_some_iff.1 ho.get).1
      rw [ho.not] at this; cases this
    exact ⟨hr,hQ E T H nx a w hI.ext hI.sim (hI.final hok hall)⟩
  | fuel + 1,L,a,w,E,T,H,nx,hI,hl=>by
    refine ⟨fun hr=>hQ E T H nx a w hI.ext hI.sim (hI.final hok (hI.some_ready hok hr)),fun i hi=>?_⟩
    obtain ⟨o,ho⟩:=ready_of hI.lsz hi
    refine hI.step hvp hok ho (fun a' w' E' T' H' nx' hI'=>any_mixN hvp hok hQ fuel _ a' w' E' T' H' nx' hI' ?_)
    have:=left_set L i ops.length (List.getElem?_eq_some_iff.1 ho.get).1 hI.lsz ho.not
    omega
theorem wp_mixN {rr:Option Nat} {Q:Exit→Act→World→Prop} {rid:Nat} (hm:P.follows .mixedOrders=true) (hvp:VP vp) (hok:mixNOk vp bp N.n ops C=true) (hS:Sim E₀ N ⟨T,H,nx⟩ a w₀) (hs:Sub S H)
    (h:aopsN vp bp P N.n (ops.map (·.dst)) S (C.map (pairN ops)) T H nx K)
    (hQ:∀ E' T' H' nx' a' w',Ext E₀ w₀ E' w'→Sim E' N ⟨T',H',nx'⟩ a' w'→K T' H' nx'→Q .normal a' w'):(Code.region rid ops.toArray true).wpIn (FW rr) 0 P Q a w₀:=by
  refine wpIn_region_any hm ?_
  have hdr:({ w₀ with drawn:=w₀.drawn + 1 }:World).heap=w₀.heap:=rfl
  have hext:Ext E₀ w₀ E₀ { w₀ with drawn:=w₀.drawn + 1 }:=Ext.same hdr
  have hok:=mixNOk_ok hok
  have hfalse:∀ k,(Array.replicate ops.toArray.size false).getD k false=false:=by
    intro k
    simp only [Array.getD_eq_getD_getElem?,Array.getElem?_replicate]
    split <;> rfl
  have hrest:restI C (Array.replicate ops.toArray.size false)=C:=List.filter_eq_self.2 (fun k _=>by rw [hfalse]; rfl)
  refine any_mixN (C:=C) (K:=K) (S:=S) (E₀:=E₀) (w₀:=w₀) hvp hok hQ _ _ _ _ E₀ T H nx ⟨by simp,?_,hext,?_,fun _ _ _ _=>hs,by rw [hrest]; exact h⟩ (by rw [List.size_toArray]; unfold left; exact Nat.le_trans List.countP_le_length (by simp))
  · intro j i h1; rw [hfalse] at h1; cases h1
  · exact ⟨hS.env.drew,hS.heap.same hdr,hS.fresh,hS.round,hS.floor,hS.size,fun t=>(hS.tmps t).ext hext,hS.defers.ext hext⟩
end Go.Abs
namespace Go.Abs
open Go.RowKit
def awp (P:Program) (n:Nat):Code→Tm→Hp→Nat→CP→Prop
  | .skip,T,H,nx,K=>K .normal T H nx
  | .label _,T,H,nx,K=>K .normal T H nx
  | .region _ ops draw,T₀,H₀,nx₀,K=>∃ T H nx Hf,Gh T₀ H₀ nx₀ T H nx Hf∧match draw with
    | true=>(if drawOk false ops.toList=true then aops P n .draw (ops.toList.map (·.dst)) ops.toList T H nx (K .normal) else bbind (drawOk true ops.toList) (aops P n (.fresh nx) (ops.toList.map (·.dst)) ops.toList T H nx (K .normal))) ∨
      (∃ vp C,VP vp∧mixOk vp n ops.toList C=true∧aopsM vp P n (ops.toList.map (·.dst)) (C.map fun k=>ops.toList.getD k default) T H nx (K .normal)) ∨
      ∃ vp bp C S,VP vp∧mixNOk vp bp n ops.toList C=true∧Sub S H∧aopsN vp bp P n (ops.toList.map (·.dst)) S (C.map (pairN ops.toList)) T H nx (K .normal)
    | false=>aops P n .text (ops.toList.map (·.dst)) ops.toList T H nx (K .normal)
  | .seq x y,T,H,nx,K=>awp P n x T H nx fun e T H nx=>athen e (awp P n y T H nx K) (K e T H nx)
  | .cond c x y,T,H,nx,K=>acond (ev T c) (awp P n x T H nx K) (awp P n y T H nx K)
  | .block id b,T,H,nx,K=>awp P n b T H nx fun e T H nx=>K (ablock id e) T H nx
  | .loop b,T,H,nx,K=>aloop (awp P n b) T H nx K
  | .exit id,T,H,nx,K=>K (.exit id) T H nx
  | .ret,T,H,nx,K=>K .ret T H nx
  | .rangeFunc g ps x y,T,H,nx,K=>RF P n (.rangeFunc g ps x y) T H nx K
  | _,_,_,_,_=>False
theorem awp_mono {P:Program} {N:Nat}:∀ (c:Code) {T:Tm} {H:Hp} {nx:Nat} {K K':CP},awp P N c T H nx K→(∀ e T H nx,K e T H nx→K' e T H nx)→awp P N c T H nx K'
  | .skip,_,_,_,_,_,h,hK=>hK _ _ _ _ h
  | .label _,_,_,_,_,_,h,hK=>hK _ _ _ _ h
  | .exit _,_,_,_,_,_,h,hK=>hK _ _ _ _ h
  | .ret,_,_,_,_,_,h,hK=>hK _ _ _ _ h
  | .region _ ops draw,_,_,_,_,_,h,hK=>by
    obtain ⟨T,H,nx,Hf,hg,h⟩:=h
    refine ⟨T,H,nx,Hf,hg,?_⟩
    cases draw with
    | true =>
      simp only at h ⊢
      rcases h with h | ⟨vp,C,h0,h1,h3⟩ | ⟨vp,bp,C,S,h0,h1,hs,h3⟩
      · left
        split
        · rename_i hd; rw [if_pos hd] at h; exact aops_mono (hK .normal) _ h
        · rename_i hd; rw [if_neg hd] at h; exact ⟨h.1,aops_mono (hK .normal) _ h.2⟩
      · exact .inr (.inl ⟨vp,C,h0,h1,aopsM_mono (hK .normal) _ h3⟩)
      · exact .inr (.inr ⟨vp,bp,C,S,h0,h1,hs,aopsN_mono (hK .normal) _ h3⟩)
    | false=>exact aops_mono (hK .normal) _ h
  | .seq x y,_,_,_,K,K',h,hK=>by
    refine awp_mono x h (fun e T H nx h=>?_)
    cases e with
    | normal=>exact awp_mono y h hK
    | exit i=>exact hK _ _ _ _ h
    | ret=>exact hK _ _ _ _ h
  | .cond c x y,T,H,nx,K,K',h,hK=>by
    simp only [awp] at h ⊢
    unfold acond at h ⊢
    split at h
    · exact ⟨fun hb=>awp_mono x (h.1 hb) hK,fun hb=>awp_mono y (h.2 hb) hK⟩
    · exact h
  | .block id b,_,_,_,_,_,h,hK=>awp_mono b h (fun e T H nx h=>hK _ _ _ _ h)
  | .loop b,T,H,nx,K,K',h,hK=>by
    obtain ⟨n,h⟩:=h
    refine ⟨n,?_⟩
    induction n generalizing T H nx with
    | zero=>exact h
    | succ n ih =>
      obtain ⟨T',H',nx',Hf,hw,h⟩:=h
      refine ⟨T',H',nx',Hf,hw,awp_mono b h (fun e T H nx h=>?_)⟩
      cases e with
      | normal=>exact ih _ _ _ h
      | exit i=>exact hK _ _ _ _ h
      | ret=>exact hK _ _ _ _ h
  | .rangeFunc ..,_,_,_,_,_,h,hK=>h.mono hK
  | .scope _,_,_,_,_,_,h,_=>h
  | .goto _,_,_,_,_,_,h,_=>h
  | .refuse _,_,_,_,_,_,h,_=>h
theorem awp_sound {P:Program} {N:Cfg} (hm:P.follows .mixedOrders=true):∀ (c:Code) {E:Env} {T:Tm} {H:Hp} {nx:Nat} {a:Act} {w:World} {K:CP},Sim E N ⟨T,H,nx⟩ a w →
    awp P N.n c T H nx K→c.wpIn (FW N.rd) 0 P (APost P N E w K) a w
  | .skip,_,_,_,_,_,_,_,hS,h=>wpIn_skip ⟨.normal,_,_,_,_,rfl,Ext.refl _ _,hS,h⟩
  | .label _,_,_,_,_,_,_,_,hS,h=>wpIn_label ⟨.normal,_,_,_,_,rfl,Ext.refl _ _,hS,h⟩
  | .exit i,_,_,_,_,_,_,_,hS,h=>wpIn_exit ⟨.exit i,_,_,_,_,rfl,Ext.refl _ _,hS,h⟩
  | .ret,_,_,_,_,_,_,_,hS,h=>wpIn_ret ⟨.ret,_,_,_,_,rfl,Ext.refl _ _,hS,h⟩
  | .region id ops draw,E₁,T₁,H₁,nx₁,a,w,K,hS₁,h=>by
    obtain ⟨T,H,nx,Hf,hg,h⟩:=h
    obtain ⟨E,he₁,hS⟩:=hS₁.ghost hg
    refine wpIn_mono (F:=FW N.rd) ?_ (fun e a w h=>APost.trans he₁ h)
    cases draw with
    | false=>exact wpIn_region_list (aops_sound ops.toList hS h (fun E' T' H' nx' a' w' he hS' hk=>⟨.normal,E',T',H',nx',rfl,he,hS',hk⟩))
    | true =>
      simp only at h
      have key:∀ dm:DM,dm.isText=false→drawOk dm.fr.isSome ops.toList=true→(∀ m,dm.fr=some m→m=nx)→aops P N.n dm (ops.toList.map (·.dst)) ops.toList T H nx (K .normal)→(Code.region id ops true).wpIn (FW N.rd) 0 P (APost P N E w K) a w:=by
        intro dm hdm hok hm0 h
        obtain ⟨s,r,h0,h1,h2⟩:=aops_trace hdm ops.toList h
        have ht:Txt P N dm.fr ops.toList s r:=⟨h1,hok,by rw [h0]; exact hm0⟩
        have:=wp_draw (rr:=N.rd) (rid:=id) (Q:=APost P N E w K) (a:=a) (w₀:=w) (E₀:=E) hm ht (by rw [h0]; exact hS) (fun E' a' w' he hS'=>⟨.normal,E',_,_,_,rfl,he,hS',h2⟩)
        rw [Array.toArray_toList] at this
        exact this
      rcases h with h | ⟨vp,C,h0,h1,h3⟩ | ⟨vp,bp,C,S,h0,h1,hs,h3⟩
      · split at h
        · rename_i hok
          exact key .draw rfl hok (fun m hm=>(by cases hm)) h
        · exact key (.fresh nx) rfl h.1 (fun m hm=>by cases hm; rfl) h.2
      · have:=wp_mix (rr:=N.rd) (rid:=id) (Q:=APost P N E w K) (a:=a) (w₀:=w) (E₀:=E) hm h0 h1 hS h3 (fun E' T' H' nx' a' w' he hS' hk=>⟨.normal,E',T',H',nx',rfl,he,hS',hk⟩)
        rw [Array.toArray_toList] at this
        exact this
      · have:=wp_mixN (rr:=N.rd) (rid:=id) (Q:=APost P N E w K) (a:=a) (w₀:=w) (E₀:=E) hm h0 h1 hS hs h3 (fun E' T' H' nx' a' w' he hS' hk=>⟨.normal,E',T',H',nx',rfl,he,hS',hk⟩)
        rw [Array.toArray_toList] at this
        exact this
  | .seq x y,E,T,H,nx,a,w,K,hS,h=>by
    refine wpIn_seq (wpIn_mono (awp_sound hm x hS h) ?_)
    rintro e a' w' ⟨z,E',T',H',nx',rfl,he,hS',hk⟩
    cases z with
    | normal=>exact wpIn_mono (awp_sound hm y hS' hk) (fun e a w h=>h.trans he)
    | exit i=>exact ⟨.exit i,E',T',H',nx',rfl,he,hS',hk⟩
    | ret=>exact ⟨.ret,E',T',H',nx',rfl,he,hS',hk⟩
  | .cond c x y,E,T,H,nx,a,w,K,hS,h=>by
    simp only [awp] at h
    unfold acond at h
    split at h
    · rename_i b hb
      have hr:=ev_rel (E:=E) (w:=w) (a:=a) hS.tmps c
      simp only at hr
      rw [hb] at hr
      generalize hv:a.eval c=v at hr
      cases hr
      exact wpIn_cond_split hv (fun hb=>awp_sound hm x hS (h.1 hb)) (fun hb=>awp_sound hm y hS (h.2 hb))
    · exact h.elim
  | .block id b,E,T,H,nx,a,w,K,hS,h=>by
    refine wpIn_block (wpIn_mono (awp_sound hm b hS h) ?_)
    rintro e a' w' ⟨z,E',T',H',nx',rfl,he,hS',hk⟩
    cases z with
    | normal=>exact ⟨.normal,E',T',H',nx',rfl,he,hS',hk⟩
    | exit i =>
      simp only [AEx.cv,Exit.inBlock]
      split
      · rename_i hi
        refine ⟨.normal,E',T',H',nx',rfl,he,hS',?_⟩
        simp only [ablock,if_pos hi] at hk; exact hk
      · rename_i hi
        refine ⟨.exit i,E',T',H',nx',rfl,he,hS',?_⟩
        simp only [ablock,if_neg hi] at hk; exact hk
    | ret=>exact ⟨.ret,E',T',H',nx',rfl,he,hS',hk⟩
  | .loop b,E,T,H,nx,a,w,K,hS,h=>by
    obtain ⟨n,h⟩:=h
    refine wpIn_loop_rounds n ?_
    have key:∀ n (E':Env) T H nx a w',Ext E w E' w'→Sim E' N ⟨T,H,nx⟩ a w'→aloopN (awp P N.n b) K n T H nx→Code.roundsIn (FW N.rd) 0 P b (APost P N E w K) n a w':=by
      intro n
      induction n with
      | zero=>intro E' T H nx a w' _ _ h; exact h
      | succ n ih =>
        intro E' T H nx a w' he hS h
        obtain ⟨T',H',nx',Hf,hwk,h⟩:=h
        obtain ⟨E₁,he₁,hS₁⟩:=hS.ghost hwk
        refine wpIn_mono (awp_sound hm b hS₁ h) ?_
        rintro e a' w'' ⟨z,E'',T'',H'',nx'',rfl,he',hS',hk⟩
        cases z with
        | normal=>exact ih E'' _ _ _ _ _ ((he.trans he₁).trans he') hS' hk
        | exit i=>exact ⟨.exit i,E'',T'',H'',nx'',rfl,(he.trans he₁).trans he',hS',hk⟩
        | ret=>exact ⟨.ret,E'',T'',H'',nx'',rfl,(he.trans he₁).trans he',hS',hk⟩
    exact key n E T H nx a w (Ext.refl _ _) hS h
  | .rangeFunc ..,_,_,_,_,_,_,_,hS,h=>h N _ _ _ rfl hS
  | .scope _,_,_,_,_,_,_,_,_,h=>h.elim
  | .goto _,_,_,_,_,_,_,_,_,h=>h.elim
  | .refuse _,_,_,_,_,_,_,_,_,h=>h.elim
end Go.Abs
namespace Go.Abs
open Go.RowKit
def ares (P:Program) (T:Tm) (H:Hp):List ResultVar→Option (List AV)
  | []=>some []
  | .tmp t :: l=>match ares P T H l with | some xs=>some (T t :: xs) | none=>none
  | .cell a t :: l=>match aload P H t (T a),ares P T H l with | some x,some xs=>some (x :: xs) | _,_=>none
def ares1 (P:Program) (T:Tm) (H:Hp) (l:List ResultVar):Option AV:=match ares P T H l with
  | some [x]=>some x
  | some xs=>some (.tup xs)
  | none=>none
def Cells (w w':World):Prop:=∀ a v,w.cell? a=some v→w'.cell? a=some v
theorem loadVar_run {P:Program} {E:Env} {H:Hp} {nx:Nat} {w:World} (hh:HeapOk E H nx w) {p:AV} {v:Value} (hr:Rel E w p v) {t:TypeId} {x:AV} (hx:aload P H t p=some x) :
    ∃ y,(∀ w',Cells w w'→(do loadVar t (← asAddr v):Sem Value).run P w'=.ok y w')∧Rel E w x y:=by
  unfold aload at hx
  split at hx
  case isFalse=>cases hx
  case isTrue ht =>
    split at hx
    case isTrue hagg =>
      split at hx
      case isFalse=>cases hx
      case isTrue hpos =>
        cases hrd:rd H (P.cellsOf t) p with
        | none=>simp [hrd] at hx
        | some xs =>
          simp [hrd] at hx
          subst hx
          obtain ⟨blk,o,vals,rfl,hlen,hrow⟩:=rd_sound hh hr hrd hpos
          refine ⟨.agg vals.toArray,fun w' hw=>?_,.agg xs vals hrow.len hrow.rel⟩
          have hl:vals.length=P.cellsOf t:=hrow.len.trans hlen
          simp only [asAddr,loadVar,Sem.run_bind,Sem.run_pure,Result.andThen_ok,run_isAgg ht,hagg,if_true,run_sizeOf' ht,← hl]
          rw [run_loadCells_list (P:=P) (w:=w') ⟨blk,o,none⟩ vals (fun j v hv=>by rw [addr_add]; exact hw _ _ (hrow.cell _ _ hv))]
          rfl
    case isFalse hagg =>
      obtain ⟨blk,o,y,rfl,hc,hrel⟩:=rd1_sound hh hr hx
      refine ⟨y,fun w' hw=>?_,hrel⟩
      simp [asAddr,loadVar,run_isAgg ht,hagg,hw _ _ hc]
theorem ares_run {P:Program} {E:Env} {w:World} {H:Hp} {nx:Nat} {T:Tm} {tmps:Array Value} (hh:HeapOk E H nx w) (ht:∀ t,Rel E w (T t) (tmps.getD t Go.undef)):∀ (l:List ResultVar) (xs:List AV),ares P T H l=some xs →
    ∃ vs,(∀ w',Cells w w'→(l.mapM (fun r:ResultVar=>match r with | .tmp t=>(pure (tmps.getD t Go.undef):Sem Value) | .cell a t=>do loadVar t (← asAddr (tmps.getD a Go.undef)))).run P w'=.ok vs w')∧RelL E w xs vs
  | [],xs,h=>by cases h; exact ⟨[],fun _ _=>rfl,rfl,by simp⟩
  | .tmp t :: l,xs,h=>by
    simp only [ares] at h
    split at h
    · rename_i ys hy
      cases h
      obtain ⟨vs,h1,h2⟩:=ares_run (P:=P) hh ht l ys hy
      refine ⟨tmps.getD t Go.undef :: vs,fun w' hw=>?_,by simp [h2.1],fun i x y hx hy=>?_⟩
      · rw [List.mapM_cons]
        simp only [Sem.run_bind,Sem.run_pure,Result.andThen_ok,h1 w' hw]
      · cases i with
        | zero=>simp at hx hy; subst hx; rw [← hy]; have:=ht t; simpa using this
        | succ i=>exact h2.2 i x y (by simpa using hx) (by simpa using hy)
    · cases h
  | .cell a t :: l,xs,h=>by
    simp only [ares] at h
    split at h
    · rename_i x0 ys hx0 hy
      cases h
      obtain ⟨vs,h1,h2⟩:=ares_run (P:=P) hh ht l ys hy
      obtain ⟨y0,k1,k2⟩:=loadVar_run (P:=P) hh (ht a) hx0
      refine ⟨y0 :: vs,fun w' hw=>?_,by simp [h2.1],fun i x y hx hy=>?_⟩
      · rw [List.mapM_cons,Sem.run_bind]
        have:=k1 w' hw
        rw [this]
        simp only [Sem.run_bind,Sem.run_pure,Result.andThen_ok,h1 w' hw]
      · cases i with
        | zero=>simp at hx hy; subst hx; rw [← hy]; exact k2
        | succ i=>exact h2.2 i x y (by simpa using hx) (by simpa using hy)
    · cases h
theorem ares1_run {P:Program} {E:Env} {w:World} {H:Hp} {nx:Nat} {T:Tm} {tmps:Array Value} {fn:Func} {x:AV} (hh:HeapOk E H nx w) (ht:∀ t,Rel E w (T t) (tmps.getD t Go.undef)) (h:ares1 P T H fn.results.toList=some x) :
    ∃ v,(∀ w',Cells w w'→(results fn tmps).run P w'=.ok v w')∧Rel E w x v:=by
  have key:∀ xs,ares P T H fn.results.toList=some xs→∃ vs:Array Value,(∀ w',Cells w w'→(results fn tmps).run P w'=.ok (if h:vs.size=1 then vs[0] else .tuple vs) w')∧RelL E w xs vs.toList:=by
    intro xs hx
    obtain ⟨vs,h1,h2⟩:=ares_run (P:=P) hh ht _ _ hx
    refine ⟨vs.toArray,fun w' hw=>?_,h2⟩
    have e:results fn tmps=(do
        let vs ← (List.toArray <$> fn.results.toList.mapM (fun r:ResultVar=>match r with | .tmp t=>(pure (tmps.getD t Go.undef):Sem Value) | .cell a t=>do loadVar t (← asAddr (tmps.getD a Go.undef))):Sem (Array Value))
        pure (if h:vs.size=1 then vs[0] else .tuple vs)):=by
      unfold results
      rw [Array.mapM_eq_mapM_toList]
      rfl
    rw [e,map_eq_pure_bind]
    simp only [Sem.run_bind,h1 w' hw,Result.andThen_ok,Sem.run_pure]
  unfold ares1 at h
  split at h
  · rename_i y hy
    cases h
    obtain ⟨vs,h1,h2⟩:=key _ hy
    have hs:vs.size=1:=by have:=h2.1; simpa using this
    refine ⟨vs[0],fun w' hw=>by rw [h1 w' hw,dif_pos hs],h2.2 0 _ _ rfl (by simp [hs])⟩
  · rename_i xs hne hy
    cases h
    obtain ⟨vs,h1,h2⟩:=key _ hy
    have hs:vs.size ≠ 1:=by
      intro hs
      have:=h2.1
      rw [Array.length_toList,hs] at this
      match xs,this,hne with
      | [x],_,hne=>exact hne x rfl
    refine ⟨.tuple vs,fun w' hw=>by rw [h1 w' hw,dif_neg hs],?_⟩
    exact Rel.tup _ vs.toList h2.1 h2.2
  · cases h
theorem Rel.world {E:Env} {w w':World} (hc:∀ a v,w.cell? a=some v→w'.cell? a=some v) {x:AV} {v:Value} (h:Rel E w x v):Rel E w' x v:=by
  induction h with
  | undef v=>exact .undef v
  | bool b=>exact .bool b
  | int k n=>exact .int k n
  | str s=>exact .str s
  | nilp=>exact .nilp
  | nilf=>exact .nilf
  | yld b l h=>exact .yld b l h
  | mp b k h=>exact .mp b k h
  | nilm=>exact .nilm
  | itr b k h=>exact .itr b k h
  | ptr b n off blk sz h=>exact .ptr b n off blk sz h
  | iptr cells off blk o vals h1 h2 _ ih=>exact .iptr cells off blk o vals h1 (fun i h=>hc _ _ (h2 i h)) ih
  | eslnil=>exact .eslnil
  | esl a=>exact .esl a
  | slnil sz=>exact .slnil sz
  | slempty sz a c=>exact .slempty sz a c
  | sl sz elems blk o cap vals h1 hlen hsz h2 _ ih=>exact .sl sz elems blk o cap vals h1 hlen hsz (fun i h=>hc _ _ (h2 i h)) ih
  | msl b n sz off len blk bsz cap h hl hc' hn=>exact .msl b n sz off len blk bsz cap h hl hc' hn
  | msl0 b sz v h=>exact .msl0 b sz v h
  | func f caps cv hl _ ih=>exact .func f caps cv hl ih
  | bfn f caps cv hl _ ih=>exact .bfn f caps cv hl ih
  | agg cs vs hl _ ih=>exact .agg cs vs hl ih
  | tup cs vs hl _ ih=>exact .tup cs vs hl ih
theorem cell_shut {w:World} {D:Nat} {o o':Obj} (hD:w.heap[D]?=some o) (hno:∀ c e f,o ≠ .cells c e f):∀ a v,w.cell? a=some v→(w.putObj D o').cell? a=some v:=by
  intro a v h
  have hne:a.block ≠ D:=by
    intro e
    unfold World.cell? at h
    rw [e,hD] at h
    split at h
    · rename_i hh; cases hh; exact absurd rfl (hno _ _ _)
    · cases h
  unfold World.cell? at h ⊢
  have:(w.putObj D o').heap[a.block]?=w.heap[a.block]?:=by
    simp only [World.putObj]
    exact Array.getElem?_setIfInBounds_ne (Ne.symm hne)
  rw [this]; exact h
theorem run_take {P:Program} {w:World} {D:Nat} (hD:w.heap[D]?=some (.deferred (some []))):(Instr.takeDeferred D).run P w=.ok [] (w.putObj D (.deferred none)):=by
  unfold Instr.takeDeferred
  simp [getObj,setObj,Sem.run,hD,World.putObj,bind,Sem.bind,pure]
def Undef (w w':World):Prop:=∀ (k:Nat) (o:Obj),w.heap[k]?=some o→(∀ ds,o ≠ .deferred ds)→w'.heap[k]?=some o
theorem leaves_marks {P:Program} {fn:Func} {tmps:Array Value} {R:Ending→World→Prop} {E:Env} {N:Cfg} {w₀:World} {v:Value} (hv:∀ w,Cells w₀ w→(results fn tmps).run P w=.ok v w)
    (hR:∀ w,Below E.base w₀ w→Below N.floor w₀ w→w.heap.size=w₀.heap.size→Undef w₀ w→(∀ a v,w₀.cell? a=some v→w.cell? a=some v)→R (.returned v) w) :
    ∀ (ds:List Deferred) (w:World),Marks E N w ds→Below E.base w₀ w→Below N.floor w₀ w→w.heap.size=w₀.heap.size→Undef w₀ w→(∀ a v,w₀.cell? a=some v→w.cell? a=some v)→LeavesInM Fence.wide 0 P fn tmps R ds .returning w
  | [],w,_,hb,hb2,hs,hu,hc=>⟨v,hv w hc,hR w hb hb2 hs hu hc⟩
  | d :: ds,w,hm,hb,hb2,hs,hu,hc=>by
    obtain ⟨D,rfl,hD1,hD3,_,hD2⟩:=hm.2 d (by simp)
    have hpw:=List.pairwise_cons.1 hm.1
    have hne:∀ k,D ≠ k→(w.putObj D (.deferred none)).heap[k]?=w.heap[k]?:=fun k hk=>by
      simp only [World.putObj]
      exact Array.getElem?_setIfInBounds_ne hk
    refine ⟨by simp,.inl ⟨D,w.putObj D (.deferred none),rfl,run_take hD2,leaves_marks (N:=N) hv hR ds _ ⟨hpw.2,fun d' hd'=>?_⟩ ?_ ?_ ?_ ?_ ?_⟩⟩
    · obtain ⟨D',rfl,h2,h2',h3,h4⟩:=hm.2 d' (by simp [hd'])
      refine ⟨D',rfl,h2,h2',h3,?_⟩
      rw [hne D' (fun e=>hpw.1 _ hd' (by rw [e]))]; exact h4
    · exact hb.trans ⟨rfl,rfl,rfl,by simp [World.putObj],fun k hk=>hne k (by omega)⟩
    · exact hb2.trans ⟨rfl,rfl,rfl,by simp [World.putObj],fun k hk=>hne k (by omega)⟩
    · simp [World.putObj,hs]
    · intro k o ho hno
      have h1:=hu k o ho hno
      rw [hne k (fun e=>by subst e; rw [hD2] at h1; cases h1; exact hno _ rfl)]; exact h1
    · exact fun a v h=>cell_shut hD2 (by intros; simp) a v (hc a v h)
theorem Rel.env {E E':Env} {w:World} (hi:E'.imm=E.imm) (hm:E'.mu=E.mu) (hs:E'.sp=E.sp) {x:AV} {v:Value} (h:Rel E w x v):Rel E' w x v :=
  h.mono (fun b hb=>by rw [hi]; exact hb) (fun b n x hb=>by rw [hm]; exact hb) (fun b x hb=>by rw [hs]; exact hb)
theorem marks_off {E E':Env} {w w₁ w':World} {H:Hp} {nx:Nat} (hE:EnvOk E w) (he:Ext E w E' w₁) (hE':EnvOk E' w₁) (hh:HeapOk E' H nx w₁) (hb:Below E'.base w₁ w') (hb2:Below w.heap.size w₁ w') (hs:w'.heap.size=w₁.heap.size) (hu:Undef w₁ w') (hc:∀ a v,w₁.cell? a=some v→w'.cell? a=some v) :
    Ext E w { E' with dm:=E.dm } w'∧EnvOk { E' with dm:=E.dm } w'∧HeapOk { E' with dm:=E.dm } H nx w'∧∀ x v,Rel E' w₁ x v→Rel { E' with dm:=E.dm } w' x v:=by
  have hrel:∀ x v,Rel E' w₁ x v→Rel { E' with dm:=E.dm } w' x v:=fun x v h=>Rel.env (E:=E') (E':={ E' with dm:=E.dm }) rfl rfl rfl (h.world hc)
  have hmap:∀ {ks vs es clock},MapOk E' w₁ ks vs es clock→MapOk { E' with dm:=E.dm } w' ks vs es clock:=fun h =>
    ⟨h.len,h.len',fun i x e h1 h2=>hrel _ _ (h.key i x e h1 h2),fun i x e h1 h2=>hrel _ _ (h.val i x e h1 h2),h.born,h.clk⟩
  refine ⟨⟨he.base,he.w0,he.imm,he.new,he.mu,he.sp,he.lp,fun b hb'=>⟨hb',?_⟩,by rw [hs]; exact he.size,fun b hb'=>?_⟩,⟨fun b hb'=>by rw [hs]; exact hE'.lt b hb',hE'.below.trans hb,fun b hb'=>?_,hE'.spi,fun b k hk=>?_,hE'.spm,fun b r T hl=>?_⟩,⟨fun b cs hb'=>?_,hh.dom,hh.apart,by rw [hs]; exact hh.size,hh.top,fun b x hb' hx=>?_,hh.nsp⟩,hrel⟩
  · rw [hb2.block b (hE.dlt hb'),(he.dm b hb').2]
  · rw [hb2.block b (hE.lt b hb'),he.keep b hb']
  · obtain ⟨ds,hd⟩:=hE.dm b hb'
    exact ⟨ds,by rw [hb2.block b (hE.dlt hb'),(he.dm b hb').2,hd]⟩
  · obtain ⟨h1,h2,o,h3,h4,h5⟩:=hE'.spb b k hk
    exact ⟨h1,h2,o,hu k o h3 h5,h4,h5⟩
  · obtain ⟨k,st,p,h1,h2,h3⟩:=hE'.lp b r T hl
    exact ⟨k,st,p,h1,hu _ _ h2 (by intro ds; simp),fun t=>hrel _ _ (h3 t)⟩
  · rcases hh.box b cs hb' with hn | ⟨blk,sz,hx⟩
    · exact .inl hn
    · obtain ⟨vals,ty,fz,k1,kz,k2,k3,k4⟩:=hx.cells
      exact .inr ⟨blk,sz,hx.mu,hx.base,hx.imm,vals,ty,fz,hu _ _ k1 (by intro ds; simp),kz,k2,k3,fun i x hx'=>by
        obtain ⟨v,e1,e2,e3⟩:=k4 i x hx'
        exact ⟨v,e1,e2,hrel _ _ e3⟩⟩
  · obtain ⟨k,h1,h2⟩:=hh.spec b x hb' hx
    refine ⟨k,h1,?_⟩
    cases x with
    | omap ks vs =>
      obtain ⟨es,clock,h3,h4⟩:=h2
      exact ⟨es,clock,hu _ _ h3 (by intro ds; simp),hmap h4⟩
    | oloop r T=>exact ⟨hu _ _ h2.1 (by intro ds; simp),h2.2⟩
    | oiter m n0 seen =>
      obtain ⟨km,last,h3,h4,h5⟩:=h2
      exact ⟨km,last,hu _ _ h3 (by intro ds; simp),h4,h5⟩
    | _=>exact h2.elim
def AEx.ends:AEx→Bool
  | .exit _=>false
  | _=>true
def T0 (args:List AV):Tm:=fun t=>args.getD t .undef
def BodyOk (P:Program) (fn:Func) (args:List AV) (H:Hp) (nx:Nat) (K:AV→Hp→Nat→Prop):Prop :=
  ∃ c,fn.body=some c∧args.length ≤ fn.ntmps∧awp P fn.ntmps c (T0 args) H nx fun e T H nx=>bbind e.ends (obind (ares1 P T H fn.results.toList) fun x=>K x H nx)
theorem T0_rel {E:Env} {w:World} {args:List AV} {vs:List Value} (h:RelL E w args vs) (N:Nat):∀ t,Rel E w (T0 args t) ((vs.toArray ++ Array.replicate (N - vs.toArray.size) Go.undef).getD t Go.undef):=by
  intro t
  unfold T0
  by_cases hlt:t < args.length
  · have h1:args.getD t .undef=args[t]:=by simp [List.getD,hlt]
    have hv:t < vs.length:=by rw [h.1]; exact hlt
    have h2:(vs.toArray ++ Array.replicate (N - vs.toArray.size) Go.undef).getD t Go.undef=vs[t]:=by
      simp [Array.getElem?_append,hv]
    rw [h1,h2]
    exact h.2 t _ _ (by simp) (by simp)
  · have h1:args.getD t .undef=.undef:=by
      simp only [List.getD]
      rw [List.getElem?_eq_none (by omega)]
      rfl
    rw [h1]
    exact .undef _
theorem body_sound {P:Program} {f:FuncId} {fn:Func} {args:List AV} {H:Hp} {nx:Nat} {K:AV→Hp→Nat→Prop} (hm:P.follows .mixedOrders=true) (hf:P.funcs[f]?=some fn) (hb:BodyOk P fn args H nx K)
    {E:Env} {w:World} {vs:List Value} (hE:EnvOk E w) (hh:HeapOk E H nx w) (hfr:Fresh E nx) (hv:RelL E w args vs) :
    Calls P f vs.toArray w fun e w'=>∃ v E' r H' nx',e=.returned v∧Ext E w E' w'∧EnvOk E' w'∧HeapOk E' H' nx' w'∧Fresh E' nx'∧Rel E' w' r v∧K r H' nx':=by
  obtain ⟨c,hc,hlen,h⟩:=hb
  refine (callsIn_wide (n:=0)).1 (callsIn_of_wp_marks hf hc trivial ?_)
  have hS:Sim E ⟨fn.ntmps,w.heap.size,none⟩ ⟨T0 args,H,nx⟩ { tmps:=vs.toArray ++ Array.replicate (fn.ntmps - vs.toArray.size) Go.undef,defers:=[] } w:=by
    refine ⟨hE,hh,hfr,fun l hl=>(by cases hl),Nat.le_refl _,?_,T0_rel hv _,⟨List.Pairwise.nil,fun d hd=>(by cases hd)⟩⟩
    simp [hv.1]; omega
  refine wpIn_mono (F:=Fence.wide) (awp_sound hm c hS h) ?_
  rintro e a' w₁ ⟨x,E',T,H',nx',rfl,he,hS',hk⟩
  obtain ⟨hx,hk⟩:=hk
  cases hr:ares1 P T H' fn.results.toList with
  | none=>rw [hr] at hk; exact hk.elim
  | some r =>
    rw [hr] at hk
    obtain ⟨v,h1,h2⟩:=ares1_run (P:=P) hS'.heap hS'.tmps hr
    have:LeavesInM Fence.wide 0 P fn a'.tmps (fun e w'=>∃ v E' r H' nx',e=.returned v∧Ext E w E' w'∧EnvOk E' w'∧HeapOk E' H' nx' w'∧Fresh E' nx'∧Rel E' w' r v∧K r H' nx') a'.defers .returning w₁:=by
      refine leaves_marks (E:=E') (N:=⟨fn.ntmps,w.heap.size,none⟩) (w₀:=w₁) h1 (fun w' hb hb2 hs hu hc=>?_) a'.defers w₁ hS'.defers (Below.refl _ _) (Below.refl _ _) rfl (fun _ _ h _=>h) (fun _ _ h=>h)
      obtain ⟨k1,k2,k3,k4⟩:=marks_off hE he hS'.env hS'.heap hb hb2 hs hu hc
      exact ⟨v,_,r,H',nx',rfl,k1,k2,k3,hS'.fresh,k4 _ _ h2,hk⟩
    cases x with
    | normal=>exact this
    | ret=>exact this
    | exit i=>cases hx
theorem Fn.of_body {P:Program} {f:FuncId} {fn:Func} {args:List AV} {H:Hp} {nx:Nat} {K:AV→Hp→Nat→Prop} (hm:P.follows .mixedOrders=true) (hf:P.funcs[f]?=some fn) (hc:cok P f=true) (hb:BodyOk P fn args H nx K):Fn P f args H nx K :=
  ⟨hc,fun E w vs hE hh hfr hv=>body_sound hm hf hb hE hh hfr hv⟩
theorem Pure.of_fn {P:Program} {f:FuncId} {args:List AV} {r:AV} (h:Fn P f args noBoxes 0 fun x H nx=>Snap H x r):Pure P f args r:=by
  refine ⟨h.1,fun imm w vs hi hv=>?_⟩
  let E:Env:=⟨w.heap.size,w,imm,fun _ _=>none,fun _=>none,fun _=>none,fun _=>False⟩
  have hE:EnvOk E w:=⟨hi,Below.refl _ _,fun _ h=>h.elim,fun _ _ _ h=>(by cases h),fun _ _ h=>(by cases h),fun _ _ h=>(by cases h),fun _ _ _ h=>(by cases h)⟩
  have hv':RelL E w args vs:=⟨hv.1,fun i x y hx hy=>Rel.mono (E:=E0 imm) (E':=E) (fun _ h=>h) (fun _ _ _ h=>h) (fun _ _ h=>h) (hv.2 i x y hx hy)⟩
  refine (h.2 E w vs hE (HeapOk.noBox (Nat.le_refl _)) (fun _ _=>⟨fun _=>rfl,rfl,rfl⟩) hv').mono ?_
  rintro e w' ⟨v,E',x,H',nx',rfl,he,hE',hh',hfr',hrel,hs⟩
  refine ⟨v,fun b=>E'.imm b ∨ liveB E' H' b,rfl,?_,fun b hb=>.inl (he.imm b hb),?_,?_,hs.sound hh' hrel⟩
  · have:=hE'.below; rw [he.base,he.w0] at this; exact this
  · rintro b (hb | ⟨b',cs,sz,h1,h2⟩)
    · exact he.new b hb
    · have:=(hh'.blk_lt h1 h2).2.1
      rw [he.base] at this
      exact .inr this
  · rintro b (hb | ⟨b',cs,sz,h1,h2⟩)
    · exact hE'.lt b hb
    · exact (hh'.blk_lt h1 h2).1
theorem PureF.of_fn {P:Program} {f:FuncId} {args:List AV} {r:AV} (h:Fn P f args noBoxes 0 fun x H nx=>SnapF H x r):PureF P f args r:=by
  refine ⟨h.1,fun imm w vs hi hv=>?_⟩
  let E:Env:=⟨w.heap.size,w,imm,fun _ _=>none,fun _=>none,fun _=>none,fun _=>False⟩
  have hE:EnvOk E w:=⟨hi,Below.refl _ _,fun _ h=>h.elim,fun _ _ _ h=>(by cases h),fun _ _ h=>(by cases h),fun _ _ h=>(by cases h),fun _ _ _ h=>(by cases h)⟩
  have hv':RelL E w args vs:=⟨hv.1,fun i x y hx hy=>Rel.mono (E:=E0 imm) (E':=E) (fun _ h=>h) (fun _ _ _ h=>h) (fun _ _ h=>h) (hv.2 i x y hx hy)⟩
  refine (h.2 E w vs hE (HeapOk.noBox (Nat.le_refl _)) (fun _ _=>⟨fun _=>rfl,rfl,rfl⟩) hv').mono ?_
  rintro e w' ⟨v,E',x,H',nx',rfl,he,hE',hh',hfr',hrel,hs⟩
  refine ⟨v,fun b=>liveB E' H' b,rfl,?_,?_,?_,hs.sound hh' hrel⟩
  · have:=hE'.below; rw [he.base,he.w0] at this; exact this
  · rintro b ⟨b',cs,sz,h1,h2⟩
    have:=(hh'.blk_lt h1 h2).2.1
    rw [he.base] at this
    exact this
  · rintro b ⟨b',cs,sz,h1,h2⟩
    exact (hh'.blk_lt h1 h2).1
theorem Pure.of_body {P:Program} {f:FuncId} {fn:Func} {args:List AV} {r:AV} (hm:P.follows .mixedOrders=true) (hf:P.funcs[f]?=some fn) (hc:cok P f=true) (hb:BodyOk P fn args noBoxes 0 fun x H nx=>Snap H x r):Pure P f args r :=
  Pure.of_fn (Fn.of_body hm hf hc hb)
end Go.Abs
namespace Go.Abs
open Go.RowKit
def hdel (H:Hp) (b:Nat):Hp:=fun x=>if x=b then none else H x
theorem hdel_self {H:Hp} {b:Nat}:hdel H b b=none:=by simp [hdel]
theorem hdel_some {H:Hp} {b x:Nat} {cs:List AV} (h:hdel H b x=some cs):x ≠ b∧H x=some cs:=by
  unfold hdel at h; split at h
  · cases h
  · exact ⟨‹_›,h⟩
theorem HeapOk.del {E:Env} {H:Hp} {nx:Nat} {w:World} (h:HeapOk E H nx w) (b:Nat):HeapOk E (hdel H b) nx w :=
  h.fewer (fun _ _ hb=>(hdel_some hb).2) (fun x cs hb=>h.dom x cs (hdel_some hb).2)
theorem sp_set {E:Env} {H:Hp} {nx:Nat} {w:World} (hE:EnvOk E w) (hh:HeapOk E H nx w) {b k:Nat} {o o':Obj} (hs:E.sp b=some k) (ho:w.heap[k]?=some o)
    (hc:isCells o=false) (hc':isCells o'=false) (hd:∀ ds,o ≠ .deferred ds) (hd':∀ ds,o' ≠ .deferred ds)
    (hl:∀ r T,E.lp b=some (r,T)→∃ st p,o'=.loop { r with state:=st,pending:=p }) (hH:∀ x,H b=some [x]→x.special=false) :
    Ext E w E (w.putObj k o')∧EnvOk E (w.putObj k o')∧HeapOk E H nx (w.putObj k o'):=by
  obtain ⟨hbase,himm,_⟩:=hE.spb b k hs
  have hlt:k < w.heap.size:=(Array.getElem?_eq_some_iff.1 ho).1
  have hne:∀ k',k' ≠ k→(w.putObj k o').heap[k']?=w.heap[k']?:=fun k' h=>World.putObj_heap_other h
  have hself:(w.putObj k o').heap[k]?=some o':=World.putObj_heap_same hlt
  have hcell:∀ blk vals ty fz,w.heap[blk]?=some (.cells vals ty fz)→blk ≠ k:=fun blk vals ty fz h e=>by
    subst e; rw [ho] at h; cases h; cases hc
  have hcs:∀ a v,w.cell? a=some v→(w.putObj k o').cell? a=some v:=cell_shut ho (by
    intro c e f e'; subst e'; cases hc)
  have he:Ext E w E (w.putObj k o'):=⟨rfl,rfl,fun _ h=>h,fun _ h=>.inl h,fun _ _ _ h=>h,fun _ _ h=>h,fun _ _ h=>h,fun b' hb'=>⟨hb',hne b' (fun e=>by
    subst e; obtain ⟨ds,hds⟩:=hE.dm _ hb'; rw [ho] at hds; cases hds; exact hd _ rfl)⟩,by simp,fun b' hb'=>hne b' (fun e=>himm (e ▸ hb'))⟩
  have hspE:∀ b' x,b' ≠ b→∀ k',E.sp b'=some k'→SpOk E w b' k' x→SpOk E (w.putObj k o') b' k' x:=by
    intro b' x hb' k' hk' h
    have hkk:k' ≠ k:=fun e=>hb' (hE.spi b' b k (by rw [← e]; exact hk') hs)
    cases x with
    | omap ks vs =>
      obtain ⟨es,clock,h1,h2⟩:=h
      exact ⟨es,clock,(hne _ hkk).trans h1,h2.ext he⟩
    | oloop r T=>exact ⟨(hne _ hkk).trans h.1,h.2⟩
    | oiter m n0 seen =>
      obtain ⟨km,last,h1,h2,h3⟩:=h
      exact ⟨km,last,(hne _ hkk).trans h1,h2,h3⟩
    | _=>exact h.elim
  refine ⟨he,⟨fun b' hb'=>by simpa using hE.lt b' hb',hE.below.trans ⟨rfl,rfl,rfl,by simp,fun k' hk'=>hne k' (by omega)⟩,fun b' hb'=>?_,hE.spi,fun b' k' hk'=>?_,hE.spm,fun b' r T hl'=>?_⟩,
    ⟨fun b' cs hb'=>?_,hh.dom,hh.apart,by simpa using hh.size,hh.top,fun b' x hb' hx=>?_,hh.nsp⟩⟩
  · obtain ⟨ds,hds⟩:=hE.dm b' hb'
    exact ⟨ds,by rw [(he.dm b' hb').2]; exact hds⟩
  · obtain ⟨h1,h2,o1,h3,h4,h5⟩:=hE.spb b' k' hk'
    by_cases hkk:k'=k
    · subst hkk; exact ⟨h1,h2,o',hself,hc',hd'⟩
    · exact ⟨h1,h2,o1,(hne _ hkk).trans h3,h4,h5⟩
  · obtain ⟨k',st,p,h1,h2,h3⟩:=hE.lp b' r T hl'
    by_cases hkk:k'=k
    · subst hkk
      obtain rfl:=hE.spi b' b _ h1 hs
      obtain ⟨st',p',rfl⟩:=hl r T hl'
      exact ⟨_,st',p',h1,hself,fun t=>(h3 t).world hcs⟩
    · exact ⟨k',st,p,h1,(hne _ hkk).trans h2,fun t=>(h3 t).world hcs⟩
  · rcases hh.box b' cs hb' with hn | ⟨blk,sz,hx⟩
    · exact .inl hn
    · obtain ⟨vals,ty,fz,k1,kz,k2,k3,k4⟩:=hx.cells
      exact .inr ⟨blk,sz,hx.mu,hx.base,hx.imm,vals,ty,fz,(hne _ (hcell _ _ _ _ k1)).trans k1,kz,k2,k3,fun i x hx'=>by
        obtain ⟨v,e1,e2,e3⟩:=k4 i x hx'
        exact ⟨v,e1,e2,e3.world hcs⟩⟩
  · obtain ⟨k',h1,h2⟩:=hh.spec b' x hb' hx
    refine ⟨k',h1,hspE b' x (fun e=>?_) k' h1 h2⟩
    subst e; rw [hH x hb'] at hx; cases hx
theorem HeapOk.addSp {E:Env} {H:Hp} {nx:Nat} {w:World} (h:HeapOk E H nx w) {b k:Nat} {x:AV} (hb:b < nx) (hm:∀ n,E.mu b n=none) (hs:E.sp b=some k) (hx:SpOk E w b k x):HeapOk E (hupd H b [x]) nx w:=by
  refine ⟨fun b' cs hb'=>?_,fun b' cs hb'=>?_,fun b1 b2 cs1 cs2 blk1 sz1 blk2 sz2 hb1 hb2 hne m1 m2=>?_,h.size,fun b' cs m y hb' hm'=>?_,fun b' y hb' hy=>?_,fun b' hb'=>?_⟩
  · rcases hupd_some hb' with ⟨rfl,rfl⟩ | ⟨_,h1⟩
    · exact .inl (hm _)
    · exact h.box b' cs h1
  · rcases hupd_some hb' with ⟨rfl,rfl⟩ | ⟨_,h1⟩
    · exact hb
    · exact h.dom b' cs h1
  · rcases hupd_some hb1 with ⟨rfl,rfl⟩ | ⟨_,h1⟩
    · rw [hm] at m1; cases m1
    · rcases hupd_some hb2 with ⟨rfl,rfl⟩ | ⟨_,h2⟩
      · rw [hm] at m2; cases m2
      · exact h.apart b1 b2 cs1 cs2 blk1 sz1 blk2 sz2 h1 h2 hne m1 m2
  · rcases hupd_some hb' with ⟨rfl,rfl⟩ | ⟨_,h1⟩
    · rw [hm] at hm'; cases hm'
    · exact h.top b' cs m y h1 hm'
  · rcases hupd_some hb' with ⟨rfl,e⟩ | ⟨_,h1⟩
    · cases e; exact ⟨k,hs,hx⟩
    · exact h.spec b' y h1 hy
  · rcases hupd_some hb' with ⟨rfl,e⟩ | ⟨_,h1⟩
    · cases e
    · exact h.nsp b' h1
theorem sp_new {E:Env} {H:Hp} {nx:Nat} {w:World} (hE:EnvOk E w) (hh:HeapOk E H nx w) (hf:FreeAt E nx) (o:Obj) (hc:isCells o=false) (hd:∀ ds,o ≠ .deferred ds) :
    ∃ E',E'={ E with sp:=fun b=>if b=nx then some w.heap.size else E.sp b }∧Ext E w E' (w.alloc o)∧EnvOk E' (w.alloc o)∧HeapOk E' H (nx + 1) (w.alloc o)∧E'.sp nx=some w.heap.size∧(w.alloc o).heap[w.heap.size]?=some o:=by
  let E':Env:={ E with sp:=fun b=>if b=nx then some w.heap.size else E.sp b }
  have hspo:∀ b,b ≠ nx→E'.sp b=E.sp b:=fun b hb=>if_neg hb
  have hself:E'.sp nx=some w.heap.size:=if_pos rfl
  have hspm:∀ b x,E.sp b=some x→E'.sp b=some x:=fun b x hb=>by rw [hspo b (fun e=>by subst e; rw [hf.2.1] at hb; cases hb)]; exact hb
  have hext:Ext E w E' (w.alloc o) :=
    ⟨rfl,rfl,fun _ h=>h,fun _ h=>.inl h,fun _ _ _ h=>h,hspm,fun _ _ h=>h,fun _ h=>⟨h,heap_push_old (hE.dlt h)⟩,by simp,fun b hb=>heap_push_old (hE.lt b hb)⟩
  have hnew:(w.alloc o).heap[w.heap.size]?=some o:=World.alloc_heap_new w o
  have hst:=Still.alloc w o
  refine ⟨E',rfl,hext,⟨fun b hb=>?_,hE.below.trans ((Below.refl _ _).alloc hh.size o),fun b hb=>?_,fun b b' k h1 h2=>?_,fun b k hk=>?_,fun b k hk n=>?_,fun b r T hl=>?_⟩,
    ⟨fun b cs hb=>?_,fun b cs hb=>Nat.lt_succ_of_lt (hh.dom b cs hb),hh.apart,by simpa using Nat.le_succ_of_le hh.size,hh.top,fun b x hb hx=>?_,fun b hb=>?_⟩,hself,hnew⟩
  · have:=hE.lt b hb; simp; omega
  · obtain ⟨ds,h⟩:=hE.dm b hb; exact ⟨ds,hst _ _ h rfl⟩
  · by_cases hb:b=nx
    · subst hb
      rw [hself] at h1; cases h1
      by_cases hb':b'=b
      · exact hb'.symm
      · rw [hspo b' hb'] at h2; have:=hE.splt h2; omega
    · rw [hspo b hb] at h1
      by_cases hb':b'=nx
      · subst hb'; rw [hself] at h2; cases h2; have:=hE.splt h1; omega
      · rw [hspo b' hb'] at h2; exact hE.spi b b' k h1 h2
  · by_cases hb:b=nx
    · subst hb; rw [hself] at hk; cases hk
      exact ⟨hh.size,fun hi=>by have:=hE.lt _ hi; omega,o,hnew,hc,hd⟩
    · rw [hspo b hb] at hk
      obtain ⟨h1,h2,o1,h3,h4,h5⟩:=hE.spb b k hk
      exact ⟨h1,h2,o1,hst _ _ h3 h4,h4,h5⟩
  · by_cases hb:b=nx
    · subst hb; exact hf.1 n
    · rw [hspo b hb] at hk; exact hE.spm b k hk n
  · obtain ⟨k,st,p,h1,h2,h3⟩:=hE.lp b r T hl
    exact ⟨k,st,p,hspm _ _ h1,hst _ _ h2 rfl,fun t=>(h3 t).ext hext⟩
  · rcases hh.box b cs hb with hn | ⟨blk,sz,hx⟩
    · exact .inl hn
    · obtain ⟨vals,ty,fz,k1,kz,k2,k3,k4⟩:=hx.cells
      exact .inr ⟨blk,sz,hx.mu,hx.base,hx.imm,vals,ty,fz,(heap_push_old (Array.getElem?_eq_some_iff.1 k1).1).trans k1,kz,k2,k3,fun i x hx'=>by
        obtain ⟨v,e1,e2,e3⟩:=k4 i x hx'
        exact ⟨v,e1,e2,e3.ext hext⟩⟩
  · obtain ⟨k,h1,h2⟩:=hh.spec b x hb hx
    exact ⟨k,hspm _ _ h1,h2.ext hext (fun k o _=>hst k o)⟩
  · have:=hh.dom b _ hb
    rw [hspo b (by omega)]; exact hh.nsp b hb
def Yl (P:Program) (b:Nat) (args:List AV) (H:Hp) (nx:Nat) (K:AV→Hp→Nat→Prop):Prop :=
  ∀ (E:Env) (w:World) (vs:List Value),EnvOk E w→HeapOk E H nx w→Fresh E nx→RelL E w args vs →
    ∃ l r,E.sp b=some l∧w.heap[l]?=some (.loop r)∧vs.length=r.params.size ∧
      RoundIn Fence.wide 0 P l r.fn ((r.params.zip vs.toArray).foldl (fun tmps (t,a)=>tmps.setIfInBounds t a) r.tmps) r.assign r.body w fun e w' =>
        ∃ v E' x H' nx',e=.returned v∧Ext E w E' w'∧EnvOk E' w'∧HeapOk E' H' nx' w'∧Fresh E' nx'∧Rel E' w' x v∧K x H' nx'
theorem Yl.mono {P:Program} {b:Nat} {args:List AV} {H:Hp} {nx:Nat} {K K':AV→Hp→Nat→Prop} (h:Yl P b args H nx K) (hK:∀ r H nx,K r H nx→K' r H nx):Yl P b args H nx K':=by
  intro E w vs h1 h2 h3 h4
  obtain ⟨l,r,k1,k2,k3,k4⟩:=h E w vs h1 h2 h3 h4
  refine ⟨l,r,k1,k2,k3,k4.mono ?_⟩
  rintro e w' ⟨v,E',x,H',nx',m1,m2,m3,m4,m5,m6,m7⟩
  exact ⟨v,E',x,H',nx',m1,m2,m3,m4,m5,m6,hK _ _ _ m7⟩
theorem aspec_yield {P:Program} {f:Operand} {args:Array Operand} {ts:Array TypeId} {T:Tm} {H:Hp} {nx b:Nat} {K:AV→Hp→Nat→Prop} (hf:ev T f=.yld b) (h:Yl P b (args.toList.map (ev T)) H nx K) :
    aspec P (.call { callee:=.value f,args:=args,argTypes:=ts }) T H nx K:=by
  refine ⟨by intro c; simp,?_⟩
  rintro rr E w a ⟨dst,op,type,pos,after,guard⟩ next Q ho hE hh hfr ht hn
  simp only at ho
  subst ho
  have hr:=ht f (by simp [Op.operands,Call.operands])
  rw [hf] at hr
  generalize hv:a.eval f=vf at hr
  cases hr with
  | yld _ l hl =>
  obtain ⟨l',r,k1,k2,k3,k4⟩:=h E w (args.toList.map a.eval) hE hh hfr (relL_ops (E:=E) (w:=w) (T:=T) (a:=a) args.toList (fun x hx=>ht x (by simp only [Op.operands,Call.operands]; exact Array.mem_append.2 (.inr (by simpa using hx)))))
  rw [hl] at k1; cases k1
  have harr:args.map a.eval=(args.toList.map a.eval).toArray:=arr_map a.eval args
  have hrun:(execOp a.eval ⟨dst,.call { callee:=.value f,args:=args,argTypes:=ts },type,pos,after,guard⟩).run P w=.ok (.round l r.fn ((r.params.zip (args.toList.map a.eval).toArray).foldl (fun tmps (t,a)=>tmps.setIfInBounds t a) r.tmps) r.assign r.body) w:=by
    have hy:=run_yield (P:=P) (args:=(args.toList.map a.eval).toArray) k2 (by simpa using k3)
    unfold execOp
    simp only [resolve,hv,Deferred.ofValue,invoke,Sem.run_bind,Sem.run_pure,Result.andThen_ok,Array.empty_append]
    rw [harr]; exact hy
  rw [hrun,Oper.uponIn_round]
  refine ⟨(fun h=>by cases h),?_⟩
  refine (RoundIn.mono (F:=FW rr) (show RoundIn (FW rr) 0 P l r.fn _ r.assign r.body w _ from k4) ?_)
  rintro e w' ⟨v,E',x,H',nx',rfl,m2,m3,m4,m5,m6,m7⟩
  exact hn E' H' nx' x v w' m2 m3 m4 m5 m6 m7
def updl (T:Tm):List Nat→List AV→Tm
  | t :: ts,x :: xs=>updl (upd T t x) ts xs
  | _,_=>T
theorem updl_rel {E:Env} {w:World}:∀ (ps:List Nat) (xs:List AV) (vs:List Value) (T:Tm) (tmps:Array Value),RelL E w xs vs→(∀ t ∈ ps,t < tmps.size)→(∀ t,Rel E w (T t) (tmps.getD t Go.undef)) →
    ((ps.zip vs).foldl (fun tmps (t,a)=>tmps.setIfInBounds t a) tmps).size=tmps.size∧∀ t,Rel E w (updl T ps xs t) (((ps.zip vs).foldl (fun tmps (t,a)=>tmps.setIfInBounds t a) tmps).getD t Go.undef)
  | [],xs,vs,T,tmps,hl,hp,h=>by simp [updl]; exact fun t=>by simpa using h t
  | p :: ps,[],vs,T,tmps,hl,hp,h=>by
    have:vs=[]:=List.length_eq_zero_iff.1 hl.1
    subst this
    simp [updl]; exact fun t=>by simpa using h t
  | p :: ps,x :: xs,vs,T,tmps,hl,hp,h=>by
    cases vs with
    | nil=>have:=hl.1; simp at this
    | cons v vs =>
      have hx:Rel E w x v:=hl.2 0 x v rfl rfl
      have hl':RelL E w xs vs:=⟨by have:=hl.1; simpa using this,fun i a b ha hb=>hl.2 (i + 1) a b (by simpa using ha) (by simpa using hb)⟩
      have:=updl_rel ps xs vs (upd T p x) (tmps.setIfInBounds p v) hl' (fun t ht=>by simpa using hp t (by simp [ht])) (fun t=>by
        simp only [upd]
        split
        · rename_i e; subst e
          have:t < tmps.size:=hp t (by simp)
          simp [this]; exact hx
        · rename_i hne
          have e:(tmps.setIfInBounds p v).getD t Go.undef=tmps.getD t Go.undef:=by
            simp only [Array.getD_eq_getD_getElem?]
            rw [Array.getElem?_setIfInBounds_ne (Ne.symm hne)]
          rw [e]; exact h t)
      refine ⟨by simpa using this.1,fun t=>?_⟩
      simpa [updl] using this.2 t
structure Ready0 (n:Nat) (ps:Array Nat) (assign body:Code) (r:Loop):Prop where
  params:r.params=ps
  assign:r.assign=assign
  body:r.body=body
  state:r.state=.ready
  pending:r.pending=none
  size:r.tmps.size=n
def jumpOf:AEx→Code
  | .exit i=>.exit i
  | _=>.ret
def leftBox (r:Loop) (T:Tm) (e:AEx):AV:=.oloop { r with state:=.done,pending:=some (jumpOf e) } T
theorem ready_eq {n:Nat} {ps:Array Nat} {assign body:Code} {r:Loop} (h:Ready0 n ps assign body r):{ r with state:=.ready,pending:=none }=r:=by
  have h1:=h.state
  have h2:=h.pending
  cases r
  simp only at h1 h2
  subst h1 h2
  rfl
theorem Yl.of_awp {P:Program} {n:Nat} {ps:Array Nat} {assign body:Code} {r:Loop} (hr:Ready0 n ps assign body r) (hm:P.follows .mixedOrders=true) (hps:∀ t ∈ ps.toList,t < n)
    {b:Nat} {args:List AV} {T:Tm} {H:Hp} {nx:Nat} {K:AV→Hp→Nat→Prop} (hb:H b=some [.oloop r T]) (hl:args.length=ps.size)
    (h:awp P n assign (updl T ps.toList args) H nx fun e T2 H2 nx2=>athen e (H2 b=some [.oloop r T]∧awp P n body T2 (hdel H2 b) nx2 fun e T3 H3 nx3 =>
      athen e (K (.bool true) (hupd H3 b [.oloop r T]) nx3) (K (.bool false) (hupd H3 b [leftBox r T e]) nx3)) False):Yl P b args H nx K:=by
  intro E w vs hE hh hf hv
  obtain ⟨l,hs,hw,hlp⟩:=hh.spec b _ hb rfl
  have hlp:E.lp b=some (r,T):=by rw [← ready_eq hr]; exact hlp
  obtain ⟨l',st,p,e1,e2,hT⟩:=hE.lp b r T hlp
  rw [hs] at e1; cases e1
  obtain ⟨hbase,himm,_⟩:=hE.spb b l hs
  refine ⟨l,r,hs,hw,by rw [hr.params,hv.1,hl],?_⟩
  refine roundIn_of_wpIn (F:=Fence.wide) trivial ?_
  have htm:=updl_rel ps.toList args vs T r.tmps hv (fun t ht=>by rw [hr.size]; exact hps t ht) hT
  have hfold:(r.params.zip vs.toArray).foldl (fun tmps (t,a)=>tmps.setIfInBounds t a) r.tmps=(ps.toList.zip vs).foldl (fun tmps (t,a)=>tmps.setIfInBounds t a) r.tmps:=by
    rw [hr.params,← Array.foldl_toList]; simp
  rw [hfold,hr.assign,hr.body]
  have hS:Sim E ⟨n,0,some l⟩ ⟨updl T ps.toList args,H,nx⟩ { tmps:=(ps.toList.zip vs).foldl (fun tmps (t,a)=>tmps.setIfInBounds t a) r.tmps,defers:=[] } w :=
    ⟨hE,hh,hf,fun l' hl'=>by cases hl'; exact ⟨b,_,hlp,hs⟩,Nat.zero_le _,by rw [← hr.size]; exact htm.1,htm.2,⟨List.Pairwise.nil,fun d hd=>(by cases hd)⟩⟩
  have put:∀ (E1:Env) (H1:Hp) (nx1:Nat) (w1:World) (r1:Loop) (st:LoopState) (p:Option Code),Ext E w E1 w1→EnvOk E1 w1→HeapOk E1 H1 nx1 w1→w1.heap[l]?=some (.loop r1) →
      Ext E1 w1 E1 (w1.putObj l (.loop { r with state:=st,pending:=p }))∧EnvOk E1 (w1.putObj l (.loop { r with state:=st,pending:=p }))∧HeapOk E1 (hdel H1 b) nx1 (w1.putObj l (.loop { r with state:=st,pending:=p })):=by
    intro E1 H1 nx1 w1 r1 st p he1 hE1 hh1 hw1
    refine sp_set hE1 (hh1.del b) (he1.sp _ _ hs) hw1 rfl rfl (by intro ds; simp) (by intro ds; simp) (fun r' T' h'=>?_) (fun x hx=>?_)
    · rw [he1.lp _ _ hlp] at h'; cases h'; exact ⟨st,p,rfl⟩
    · rw [hdel_self] at hx; cases hx
  have static:∀ (E1:Env) (w1:World),Ext E w E1 w1→EnvOk E1 w1→∃ st p,w1.heap[l]?=some (.loop { r with state:=st,pending:=p }):=by
    intro E1 w1 he1 hE1
    obtain ⟨l1,st1,p1,f1,f2,_⟩:=hE1.lp b r T (he1.lp _ _ hlp)
    rw [he1.sp _ _ hs] at f1; cases f1
    exact ⟨st1,p1,f2⟩
  refine wpIn_mono (F:=FW (some l)) (awp_sound hm assign hS h) ?_
  rintro e a1 w1 ⟨x,E1,T1,H1,nx1,rfl,he1,hS1,hk⟩
  cases x with
  | exit i=>exact hk.elim
  | ret=>exact hk.elim
  | normal =>
  obtain ⟨hb1,hk⟩:=hk
  obtain ⟨l1,g1,g2,_⟩:=hS1.heap.spec b _ hb1 rfl
  rw [he1.sp _ _ hs] at g1; cases g1
  refine ⟨_,run_beginRound g2 hr.state,?_⟩
  have hbusy:({ r with state:=.busy }:Loop)={ r with state:=.busy,pending:=none }:=by have:=hr.pending; cases r; simp only at this; subst this; rfl
  rw [hbusy]
  obtain ⟨p1,p2,p3⟩:=put E1 H1 nx1 w1 r .busy none he1 hS1.env hS1.heap g2
  have hS2:Sim E1 ⟨n,0,some l⟩ ⟨T1,hdel H1 b,nx1⟩ a1 (w1.putObj l (.loop { r with state:=.busy,pending:=none })) :=
    ⟨p2,p3,hS1.fresh,hS1.round,Nat.zero_le _,hS1.size,fun t=>(hS1.tmps t).ext p1,hS1.defers.ext p1⟩
  refine wpIn_mono (F:=FW (some l)) (awp_sound hm body hS2 hk) ?_
  rintro e a3 w3 ⟨x,E3,T3,H3,nx3,rfl,he3,hS3,hk3⟩
  have he03:Ext E w E3 w3:=(he1.trans p1).trans he3
  obtain ⟨st3,pd3,hw3⟩:=static E3 w3 he03 hS3.env
  have hlt3:b < nx3:=by
    rcases Nat.lt_or_ge b nx3 with h | h
    · exact h
    · have:=(hS3.fresh b h).2.1
      rw [he03.sp _ _ hs] at this; cases this
  have hl3:=Array.getElem?_eq_some_iff.1 hw3
  have fin:∀ (st:LoopState) (jump:Option Code) (v:Bool),K (.bool v) (hupd H3 b [.oloop { r with state:=st,pending:=jump } T]) nx3→st=(if jump.isNone then .ready else .done)→v=jump.isNone →
      ∃ v' w',(Instr.endRound l jump).run P w3=.ok v' w'∧∃ v E' x H' nx',Ending.returned v'=.returned v∧Ext E w E' w'∧EnvOk E' w'∧HeapOk E' H' nx' w'∧Fresh E' nx'∧Rel E' w' x v∧K x H' nx':=by
    intro st jump v hK hst hv
    obtain ⟨q1,q2,q3⟩:=put E3 H3 nx3 w3 _ st jump he03 hS3.env hS3.heap hw3
    have q4:=q3.addSp (x:=.oloop { r with state:=st,pending:=jump } T) hlt3 (q2.spm b l (he03.sp _ _ hs)) (he03.sp _ _ hs) ⟨World.putObj_heap_same hl3.1,by
      have:=he03.lp _ _ hlp; rw [← ready_eq hr] at this; exact this⟩
    have hH:hupd (hdel H3 b) b [.oloop { r with state:=st,pending:=jump } T]=hupd H3 b [.oloop { r with state:=st,pending:=jump } T]:=by
      funext y; unfold hupd hdel; split <;> rfl
    rw [hH] at q4
    refine ⟨_,_,run_endRound jump hw3,?_⟩
    subst hv
    refine ⟨.bool jump.isNone,E3,.bool jump.isNone,_,nx3,rfl,?_,?_,?_,hS3.fresh,.bool _,hK⟩
    · subst hst; exact he03.trans q1
    · subst hst; exact q2
    · subst hst; exact q4
  cases x with
  | normal =>
    have hk3:K (.bool true) (hupd H3 b [.oloop r T]) nx3:=hk3
    rw [← ready_eq hr] at hk3
    exact fin .ready none true hk3 rfl rfl
  | exit i=>exact fin .done (some (.exit i)) false hk3 rfl rfl
  | ret=>exact fin .done (some .ret) false hk3 rfl rfl
theorem dm_new {E:Env} {H:Hp} {nx:Nat} {w:World} (hE:EnvOk E w) (hh:HeapOk E H nx w) :
    ∃ E',E'={ E with dm:=fun b=>E.dm b ∨ b=w.heap.size }∧Ext E w E' (w.alloc (.deferred (some [])))∧EnvOk E' (w.alloc (.deferred (some [])))∧HeapOk E' H nx (w.alloc (.deferred (some []))):=by
  let E':Env:={ E with dm:=fun b=>E.dm b ∨ b=w.heap.size }
  have hext:Ext E w E' (w.alloc (.deferred (some []))) :=
    ⟨rfl,rfl,fun _ h=>h,fun _ h=>.inl h,fun _ _ _ h=>h,fun _ _ h=>h,fun _ _ h=>h,fun b h=>⟨.inl h,heap_push_old (hE.dlt h)⟩,by simp,fun b hb=>heap_push_old (hE.lt b hb)⟩
  have hst:=Still.alloc w (.deferred (some []))
  refine ⟨E',rfl,hext,⟨fun b hb=>?_,hE.below.trans ((Below.refl _ _).alloc hh.size _),fun b hb=>?_,hE.spi,fun b k hk=>?_,hE.spm,fun b r T hl=>?_⟩,?_⟩
  · have:=hE.lt b hb; simp; omega
  · rcases hb with hb | rfl
    · obtain ⟨ds,h⟩:=hE.dm b hb; exact ⟨ds,hst _ _ h rfl⟩
    · exact ⟨some [],World.alloc_heap_new w _⟩
  · obtain ⟨h1,h2,o,h3,h4,h5⟩:=hE.spb b k hk
    exact ⟨h1,h2,o,hst _ _ h3 h4,h4,h5⟩
  · obtain ⟨k,st,p,h1,h2,h3⟩:=hE.lp b r T hl
    exact ⟨k,st,p,h1,hst _ _ h2 rfl,fun t=>(h3 t).ext hext⟩
  · exact hh.step hext (fun _ h=>.inl h) (Nat.le_refl _) (fun _ _ _ _=>rfl) (fun b cs blk sz hb hm=>heap_push_old (hh.blk_lt hb hm).1) hst rfl
theorem loop_new {E:Env} {H:Hp} {nx n:Nat} {w:World} (hE:EnvOk E w) (hh:HeapOk E H nx w) (hf:Fresh E nx) {r:Loop} {T:Tm} {ps:Array Nat} {assign body:Code} (hr:Ready0 n ps assign body r) (hT:∀ t,Rel E w (T t) (r.tmps.getD t Go.undef)) :
    ∃ E',Ext E w E' (w.alloc (.loop r))∧EnvOk E' (w.alloc (.loop r))∧HeapOk E' (hupd H nx [.oloop r T]) (nx + 1) (w.alloc (.loop r))∧Fresh E' (nx + 1)∧E'.sp nx=some w.heap.size∧E'.lp nx=some (r,T)∧E'.dm=E.dm:=by
  obtain ⟨E1,hE1,he,hE',hh',hs,hnew⟩:=sp_new hE hh (hf nx (Nat.le_refl _)) (.loop r) rfl (by intro ds; simp)
  let E2:Env:={ E1 with lp:=fun b=>if b=nx then some (r,T) else E1.lp b }
  have hlp1:E1.lp=E.lp:=by rw [hE1]
  have hlpo:∀ b x,E1.lp b=some x→E2.lp b=some x:=fun b x hb=>by
    show (if b=nx then some (r,T) else E1.lp b)=some x
    rw [if_neg (fun e=>by subst e; rw [hlp1,(hf b (Nat.le_refl _)).2.2] at hb; cases hb)]; exact hb
  have hself:E2.lp nx=some (r,T):=if_pos rfl
  have he2:Ext E1 (w.alloc (.loop r)) E2 (w.alloc (.loop r)) :=
    ⟨rfl,rfl,fun _ h=>h,fun _ h=>.inl h,fun _ _ _ h=>h,fun _ _ h=>h,hlpo,fun _ h=>⟨h,rfl⟩,Nat.le_refl _,fun _ _=>rfl⟩
  have hE2:EnvOk E2 (w.alloc (.loop r)):=⟨hE'.lt,hE'.below,hE'.dm,hE'.spi,hE'.spb,hE'.spm,fun b r' T' hl=>by
    by_cases hb:b=nx
    · subst hb; rw [hself] at hl; cases hl
      exact ⟨w.heap.size,r.state,r.pending,hs,hnew,fun t=>(hT t).ext (he.trans he2)⟩
    · have hl:E1.lp b=some (r',T'):=by rw [← hl]; exact (if_neg hb).symm
      obtain ⟨k,st,p,h1,h2,h3⟩:=hE'.lp b r' T' hl
      exact ⟨k,st,p,h1,h2,fun t=>(h3 t).ext he2⟩⟩
  have hh2:HeapOk E2 H (nx + 1) (w.alloc (.loop r)):=hh'.step he2 (fun _ h=>.inl h) (Nat.le_refl _) (fun _ _ _ _=>rfl) (fun _ _ _ _ _ _=>rfl) (Still.refl _) rfl
  refine ⟨E2,he.trans he2,hE2,?_,fun b hb=>?_,hs,hself,by show E1.dm=E.dm; rw [hE1]⟩
  · refine hh2.addSp (Nat.lt_succ_self _) (hE2.spm nx _ hs) hs ⟨hnew,?_⟩
    rw [hself,ready_eq hr]
  · have h0:=hf b (by omega)
    refine ⟨fun n=>?_,?_,?_⟩
    · show E1.mu b n=none; rw [hE1]; exact h0.1 n
    · show E1.sp b=none; rw [hE1]; show (if b=nx then _ else _)=none; rw [if_neg (by omega)]; exact h0.2.1
    · show (if b=nx then _ else E1.lp b)=none; rw [if_neg (by omega),hlp1]; exact h0.2.2
def RFpost (r:Loop) (T:Tm) (b:Nat) (K:CP):Hp→Nat→Prop:=fun H nx =>
  (H b=some [.oloop r T]∧K .normal T (hdel H b) nx) ∨ ∃ e,e ≠ .normal∧H b=some [leftBox r T e]∧K e T (hdel H b) nx
theorem RF_of {P:Program} {n:Nat} {g:Operand} {ps:Array Nat} {assign body:Code} {T:Tm} {H:Hp} {nx:Nat} {K:CP} {f:FuncId} {caps:List AV} (hf:ev T g=.func f caps)
    (h:∀ r:Loop,Ready0 n ps assign body r→Fn P f (.yld nx :: caps) (hupd H nx [.oloop r T]) (nx + 1) fun _ H' nx'=>RFpost r T nx K H' nx'):RF P n (.rangeFunc g ps assign body) T H nx K:=by
  intro N E a w hn hS
  refine wpIn_rangeFunc (F:=FW N.rd) (n:=0) ?_
  intro fn _
  have hgo:∃ (l dd:Nat) (mark:List Deferred) (w₁:World) (E1:Env),(Instr.enterLoop fn a.tmps ps assign body N.rd).run P w=.ok (l,mark) (w₁.alloc (.loop { state:=.ready,pending:=none,fn,tmps:=a.tmps,params:=ps,assign,body,defers:=dd })) ∧
      l=w₁.heap.size∧Ext E w E1 w₁∧EnvOk E1 w₁∧HeapOk E1 H nx w₁∧Fresh E1 nx∧Marks E1 N w₁ (mark ++ a.defers):=by
    cases hrd:N.rd with
    | none =>
      obtain ⟨E1,hE1,he,hE',hh'⟩:=dm_new hS.env hS.heap
      refine ⟨w.heap.size + 1,w.heap.size,[{ target:=.collected w.heap.size,args:=#[] }],_,E1,run_enterLoop_outer _ _ _ _ _,by simp,he,hE',hh',by rw [hE1]; exact hS.fresh,?_⟩
      refine ⟨List.pairwise_cons.2 ⟨fun d hd=>?_,hS.defers.1⟩,fun d hd=>?_⟩
      · obtain ⟨D,rfl,_,_,hD,_⟩:=hS.defers.2 d hd
        have:=hS.env.dlt hD
        intro e; simp at e; omega
      · rcases List.mem_cons.1 hd with rfl | hd
        · exact ⟨w.heap.size,rfl,by rw [he.base]; exact hS.heap.size,hS.floor,by rw [hE1]; exact .inr rfl,World.alloc_heap_new w _⟩
        · exact (hS.defers.ext he).2 d hd
    | some l0 =>
      obtain ⟨b,⟨r0,T0⟩,h1,h2⟩:=hS.round l0 hrd
      obtain ⟨k,st,p,e1,e2,_⟩:=hS.env.lp b r0 T0 h1
      rw [h2] at e1; cases e1
      exact ⟨w.heap.size,r0.defers,[],w,E,run_enterLoop_inner e2 _ _ _ _ _,rfl,Ext.refl _ _,hS.env,hS.heap,hS.fresh,hS.defers⟩
  obtain ⟨l,dd,mark,w₁,E1,hrun,hl,he1,hE1,hh1,hf1,hmk⟩:=hgo
  have hr:Ready0 n ps assign body { state:=.ready,pending:=none,fn,tmps:=a.tmps,params:=ps,assign,body,defers:=dd }:=⟨rfl,rfl,rfl,rfl,rfl,by show a.tmps.size=n; rw [hS.size,hn]⟩
  generalize hrr:({ state:=.ready,pending:=none,fn,tmps:=a.tmps,params:=ps,assign,body,defers:=dd }:Loop)=r at hr hrun
  have hrt:r.tmps=a.tmps:=by subst hrr; rfl
  obtain ⟨E2,he2,hE2,hh2,hf2,hsp,hlp,hdm⟩:=loop_new hE1 hh1 hf1 (T:=T) hr (fun t=>by rw [hrt]; exact (hS.tmps t).ext he1)
  rw [← hl] at hsp
  have hfn:=h r hr
  have hfr:=ev_rel (E:=E) (w:=w) (a:=a) hS.tmps g
  simp only at hfr
  rw [hf] at hfr
  generalize hvg:a.eval g=vg at hfr
  cases hfr with
  | func _ _ cv hcl hcr =>
  have he12:=he1.trans he2
  refine ⟨l,mark,w₁.alloc (.loop r),{ target:=.fn (.func f) cv.toArray,args:=#[.func (.yield l) #[] #[]] },w₁.alloc (.loop r),f,#[.func (.yield l) #[] #[]] ++ cv.toArray,w₁.alloc (.loop r),hrun,?_,fun _ _=>trivial,?_,(fun h=>by cases h),?_⟩
  · simp only [resolve,hvg]
    simp [go_sem]
  · simp only [invoke]
    exact run_callFunc hfn.1 _ _
  · have hargs:RelL E2 (w₁.alloc (.loop r)) (.yld nx :: caps) (.func (.yield l) #[] #[] :: cv):=by
      refine ⟨by simp [hcl],fun i x y hx hy=>?_⟩
      cases i with
      | zero=>simp at hx hy; subst hx hy; exact .yld _ _ hsp
      | succ i=>exact (hcr i x y (by simpa using hx) (by simpa using hy)).ext he12
    have hcalls:=hfn.2 E2 _ _ hE2 hh2 hf2 hargs
    have harr:#[.func (.yield l) #[] #[]] ++ cv.toArray=(.func (.yield l) #[] #[] :: cv:List Value).toArray:=by simp
    rw [harr]
    refine (callsIn_FW (r:=N.rd) (n:=0 - 1) hcalls).mono ?_
    rintro e w' ⟨v,E',x,H',nx',rfl,he',hE',hh',hf',_,hpost⟩
    have hsp':=he'.sp _ _ hsp
    have hlp':=he'.lp _ _ hlp
    have fin:∀ (r1:Loop) (T1:Tm),H' nx=some [.oloop r1 T1]→r1.state ≠ .busy→∃ w4,(Instr.endLoop l).run P w'=.ok r1.pending w4∧∃ E4,Ext E w E4 w4∧Sim E4 N ⟨T,hdel H' nx,nx'⟩ { a with defers:=mark ++ a.defers } w4:=by
      intro r1 T1 hb hst
      obtain ⟨l1,g1,g2,g3⟩:=hh'.spec nx _ hb rfl
      rw [hsp'] at g1; cases g1
      refine ⟨_,run_endLoop g2 hst,E',?_⟩
      rw [hlp'] at g3
      injection g3 with g3; injection g3 with g3 _
      obtain ⟨q1,q2,q3⟩:=sp_set hE' (hh'.del nx) hsp' g2 (o':=.loop { r1 with state:=.exhausted }) rfl rfl (by intro ds; simp) (by intro ds; simp) (fun r' T' h'=>by
        rw [hlp'] at h'; cases h'
        exact ⟨.exhausted,r1.pending,by rw [g3]⟩) (fun x hx=>by rw [hdel_self] at hx; cases hx)
      have heAll:Ext E w E' (w'.putObj l (.loop { r1 with state:=.exhausted })):=(he12.trans he').trans q1
      refine ⟨heAll,q2,q3,hf',fun l' hl'=>?_,Nat.le_trans hS.floor heAll.size,hS.size,fun t=>(hS.tmps t).ext heAll,hmk.ext ((he2.trans he').trans q1)⟩
      obtain ⟨b,x,h1,h2⟩:=hS.round l' hl'
      exact ⟨b,x,heAll.lp _ _ h1,heAll.sp _ _ h2⟩
    rcases hpost with ⟨hb,hk⟩ | ⟨e,hne,hb,hk⟩
    · obtain ⟨w4,h1,E4,h2,h3⟩:=fin r T hb (by rw [hr.state]; simp)
      rw [hr.pending] at h1
      exact ⟨none,w4,h1,.normal,E4,T,_,nx',rfl,h2,h3,hk⟩
    · obtain ⟨w4,h1,E4,h2,h3⟩:=fin _ T hb (by simp)
      refine ⟨_,w4,h1,?_⟩
      cases e with
      | normal=>exact absurd rfl hne
      | exit i=>exact wpIn_exit ⟨.exit i,E4,T,_,nx',rfl,h2,h3,hk⟩
      | ret=>exact wpIn_ret ⟨.ret,E4,T,_,nx',rfl,h2,h3,hk⟩
end Go.Abs
namespace Go.Abs
open Go.RowKit
theorem aspec_of_run {P:Program} {op:Op} {T:Tm} {H:Hp} {nx:Nat} {K:AV→Hp→Nat→Prop} (hnd:∀ c,op ≠ .defer c)
    (h:∀ (E:Env) (w:World) (a:Act) (o:Oper),o.op=op→EnvOk E w→HeapOk E H nx w→Fresh E nx→(∀ x ∈ op.operands,Rel E w (ev T x) (a.eval x)) →
      ∃ n v w' E' r H' nx',(execOp a.eval o).run P w=.ok n w'∧(n=.value v ∨ n=.skip∧v=Go.undef)∧Ext E w E' w'∧EnvOk E' w'∧HeapOk E' H' nx' w'∧Fresh E' nx'∧Rel E' w' r v∧K r H' nx'):aspec P op T H nx K:=by
  refine ⟨hnd,?_⟩
  rintro rr E w a o next Q ho hE hh hf ht hn
  obtain ⟨n,v,w',E',r,H',nx',h1,h2,h3,h4,h5,h6,h7,h8⟩:=h E w a o ho hE hh hf ht
  rw [h1]
  have:=hn E' H' nx' r v w' h3 h4 h5 h6 h7 h8
  rcases h2 with rfl | ⟨rfl,rfl⟩
  · rw [Oper.uponIn_value]; exact this
  · rw [Oper.uponIn_skip]; exact this
inductive MK where
  | one (k:TK)
  | st (ks:List TK)
def mkk (P:Program) (t:TypeId):Option MK:=match tk1 P t with
  | some k=>some (.one k)
  | none=>(tkS P t).map .st
def ksame (k:MK) (x y:AV):Option Bool:=match k,x,y with
  | .one k,x,y=>same1 k x y
  | .st ks,.agg xs,.agg ys=>sameL ks xs ys
  | _,_,_=>none
def mfind (k:MK) (key:AV):List AV→Option (Option Nat)
  | []=>some none
  | x :: l=>match ksame k key x with
    | some true=>some (some 0)
    | some false=>(mfind k key l).map (·.map (· + 1))
    | none=>none
theorem mkk_cases {P:Program} {t:TypeId} {k:MK} (h:mkk P t=some k):(∃ k',k=.one k'∧tk1 P t=some k') ∨ (∃ ks,k=.st ks∧tkS P t=some ks):=by
  unfold mkk at h
  split at h
  · cases h; exact .inl ⟨_,rfl,by assumption⟩
  · cases hk:tkS P t with
    | none=>rw [hk] at h; cases h
    | some ks=>rw [hk] at h; cases h; exact .inr ⟨ks,rfl,rfl⟩
theorem ksame_sound {P:Program} {E:Env} {w:World} {t:TypeId} {k:MK} {x y:AV} {vx vy:Value} {r:Bool} (hk:mkk P t=some k) (hx:Rel E w x vx) (hy:Rel E w y vy) (h:ksame k x y=some r) :
    (Op.equal t vx vy).run P w=.ok r w:=by
  unfold Op.equal Op.maxDepth
  rcases mkk_cases hk with ⟨k',rfl,hk'⟩ | ⟨ks,rfl,hk'⟩
  · exact same1_sound hk' hx hy h 9999
  · cases x <;> first | (cases h; done) | skip
    cases y <;> first | (cases h; done) | skip
    exact sameS_sound hk' hx hy h 9998
def mres (l:List MapEntry) (i:Nat) (r:Option Nat):Option (Nat × Value):=r.map fun j=>(i + j,(l.getD j default).val)
theorem mres_succ {e:MapEntry} {l:List MapEntry} {i:Nat} {r:Option Nat}:mres (e :: l) i (r.map (· + 1))=mres l (i + 1) r:=by
  cases r with
  | none=>rfl
  | some j=>simp [mres]; omega
theorem findAsking_sound {P:Program} {E:Env} {w:World} {t:TypeId} {k:MK} {key:AV} {vk:Value} (hk:mkk P t=some k) (hx:Rel E w key vk):∀ (es:List MapEntry) (ks:List AV) (i:Nat) (r:Option Nat),
    es.length=ks.length→(∀ (j:Nat) (x:AV) (e:MapEntry),ks[j]?=some x→es[j]?=some e→Rel E w x e.key)→mfind k key ks=some r→(Instr.findAsking t vk es i).run P w=.ok (mres es i r) w
  | [],ks,i,r,hl,hr,h=>by
    have:ks=[]:=List.length_eq_zero_iff.1 hl.symm
    subst this; cases h; rfl
  | e :: es,ks,i,r,hl,hr,h=>by
    cases ks with
    | nil=>cases hl
    | cons x ks =>
      simp only [mfind] at h
      have he:=hr 0 x e rfl rfl
      simp only [Instr.findAsking,Sem.run_bind]
      split at h
      · rename_i hs
        cases h
        rw [ksame_sound hk hx he hs]
        simp [Result.andThen,mres]
      · rename_i hs
        cases hm:mfind k key ks with
        | none=>rw [hm] at h; cases h
        | some r' =>
          rw [hm] at h; cases h
          rw [ksame_sound hk hx he hs]
          simp only [Result.andThen_ok,Bool.false_eq_true,if_false]
          rw [findAsking_sound hk hx es ks (i + 1) r' (by simpa using hl) (fun j x e h1 h2=>hr (j + 1) x e (by simpa using h1) (by simpa using h2)) hm,mres_succ]
      · cases h
theorem findNow_sound {P:Program} {E:Env} {w:World} {t:TypeId} {d:TypeDesc} {k:TK} {key:AV} {vk:Value} (hd:P.underlying t=some d) (hk:tk1 P t=some k) (hx:Rel E w key vk):∀ (es:List MapEntry) (ks:List AV) (i:Nat) (r:Option Nat),
    es.length=ks.length→(∀ (j:Nat) (x:AV) (e:MapEntry),ks[j]?=some x→es[j]?=some e→Rel E w x e.key)→mfind (.one k) key ks=some r→Instr.findNow d vk es i=some (mres es i r)
  | [],ks,i,r,hl,hr,h=>by
    have:ks=[]:=List.length_eq_zero_iff.1 hl.symm
    subst this; cases h; rfl
  | e :: es,ks,i,r,hl,hr,h=>by
    cases ks with
    | nil=>cases hl
    | cons x ks =>
      simp only [mfind] at h
      have he:=hr 0 x e rfl rfl
      have hs:∀ b,ksame (.one k) key x=some b→Instr.sameNow d vk e.key=some b:=by
        intro b hb
        generalize e.key=vke at he
        replace hb:same1 k key x=some b:=hb
        unfold same1 at hb
        unfold tk1 at hk
        rw [hd] at hk
        split at hb
        · cases hx; cases he
          split at hb
          · rename_i e2; subst e2
            cases d <;> first | (cases hk; done) | skip
            simp only [Instr.sameNow,if_true]; exact hb
          · cases hb
        · cases hx; cases he
          cases d <;> first | (cases hk; done) | skip
          simp only [Instr.sameNow,beq_toListBytes]; exact hb
        · cases hx; cases he
          cases d <;> first | (cases hk; done) | skip
          simp only [Instr.sameNow]; exact hb
        · cases hb
      simp only [Instr.findNow]
      split at h
      · rename_i hb
        cases h
        rw [hs _ hb]
        simp [mres]
      · rename_i hb
        cases hm:mfind (.one k) key ks with
        | none=>rw [hm] at h; cases h
        | some r' =>
          rw [hm] at h; cases h
          rw [hs _ hb]
          simp only
          rw [findNow_sound hd hk hx es ks (i + 1) r' (by simpa using hl) (fun j x e h1 h2=>hr (j + 1) x e (by simpa using h1) (by simpa using h2)) hm,mres_succ]
      · cases h
theorem findKey_sound {P:Program} {E:Env} {w:World} {t:TypeId} {k:MK} {key:AV} {vk:Value} (hk:mkk P t=some k) (hx:Rel E w key vk) {es:List MapEntry} {ks:List AV} {r:Option Nat}
    (hl:es.length=ks.length) (hr:∀ (j:Nat) (x:AV) (e:MapEntry),ks[j]?=some x→es[j]?=some e→Rel E w x e.key) (h:mfind k key ks=some r):(Instr.findKey t vk es).run P w=.ok (mres es 0 r) w:=by
  rcases mkk_cases hk with ⟨k',rfl,hk'⟩ | ⟨fks,rfl,hk'⟩
  · obtain ⟨d,hd⟩:∃ d,P.underlying t=some d:=by
      unfold tk1 at hk'
      cases hu:P.underlying t with
      | none=>rw [hu] at hk'; cases hk'
      | some d=>exact ⟨d,rfl⟩
    unfold Instr.findKey
    simp only [Sem.run_bind,run_underlying hd,Result.andThen_ok,findNow_sound hd hk' hx es ks 0 r hl hr h]
    rfl
  · have hu:=(tkS_eq hk').1
    unfold Instr.findKey
    simp only [Sem.run_bind,run_underlying hu,Result.andThen_ok]
    cases es with
    | nil =>
      have:ks=[]:=List.length_eq_zero_iff.1 hl.symm
      subst this; cases h; rfl
    | cons e es =>
      have:Instr.findNow (.struct (P.fieldsOf t)) vk (e :: es) 0=none:=rfl
      rw [this]
      exact findAsking_sound hk hx _ ks 0 r hl hr h
def kfit (k:MK) (x:AV):Bool:=match k,x with
  | .one .int,.int _ _=>true
  | .one .str,.str _=>true
  | .one .bool,.bool _=>true
  | .st ks,.agg xs=>ks.length == xs.length
  | _,_=>false
theorem run_checkKey1 {P:Program} {w:World} {t:TypeId} {k:TK} (hk:tk1 P t=some k) (em:Bool) (n:Nat) (v:Value):(Instr.checkKey em (n + 1) t v).run P w=.ok () w:=by
  unfold tk1 at hk
  cases hu:P.underlying t with
  | none=>rw [hu] at hk; cases hk
  | some d =>
    rw [hu] at hk
    cases d <;> first | (cases hk; done) | skip
    all_goals
      simp only [Instr.checkKey,Sem.run_bind,run_underlying hu,Result.andThen_ok]
      cases v <;> rfl
theorem tkF_mem {P:Program}:∀ (fs:List Field) (i:Nat) (ks:List TK),tkF P i fs=some ks→ks.length=fs.length∧∀ (j:Nat) (f:Field),fs[j]?=some f→f.offset=i + j∧∃ k,tk1 P f.type=some k
  | [],i,ks,h=>by cases h; exact ⟨rfl,by simp⟩
  | f :: fs,i,ks,h=>by
    simp only [tkF] at h
    split at h
    case isFalse=>cases h
    case isTrue hc =>
    split at h
    case h_2=>cases h
    rename_i k ks' h1 h2
    cases h
    obtain ⟨e1,e2⟩:=tkF_mem fs (i + 1) ks' h2
    refine ⟨by simp [e1],fun j g hg=>?_⟩
    cases j with
    | zero=>simp at hg; subst hg; exact ⟨hc.2,k,h1⟩
    | succ j=>obtain ⟨q1,q2⟩:=e2 j g (by simpa using hg); exact ⟨by omega,q2⟩
theorem forIn_ok {α:Type} {P:Program} {w:World}:∀ (l:List α) (f:α→PUnit→Sem (ForInStep PUnit)),(∀ x ∈ l,(f x PUnit.unit).run P w=.ok (.yield PUnit.unit) w)→(forIn l PUnit.unit f).run P w=.ok PUnit.unit w
  | [],f,h=>by simp
  | x :: l,f,h=>by
    rw [List.forIn_cons]
    simp only [Sem.run_bind,h x (by simp),Result.andThen_ok]
    exact forIn_ok l f (fun y hy=>h y (by simp [hy]))
theorem run_checkKeyS {P:Program} {w:World} {t:TypeId} {ks:List TK} (hk:tkS P t=some ks) {vs:List Value} (hl:vs.length=ks.length) (em:Bool) (n:Nat) (hk1:∀ t v k,tk1 P t=some k→(Instr.checkKey em n t v).run P w=.ok () w):(Instr.checkKey em (n + 1) t (.agg vs.toArray)).run P w=.ok () w:=by
  obtain ⟨h1,_,_,h4⟩:=tkS_eq hk
  obtain ⟨q1,q2⟩:=tkF_mem _ 0 ks h4
  simp only [Instr.checkKey,Sem.run_bind,run_underlying h1,Result.andThen_ok]
  rw [← Array.forIn_toList]
  rw [forIn_ok]
  · rfl
  · intro f hf
    obtain ⟨j,hj⟩:=List.getElem?_of_mem hf
    obtain ⟨e1,k,e2⟩:=q2 j f hj
    have hlt:f.offset < vs.toArray.size:=by have:=(List.getElem?_eq_some_iff.1 hj).1; simp; omega
    have hp:=part_plain (P:=P) (w:=w) e2 (cs:=vs.toArray) (i:=f.offset) (v:=vs.toArray[f.offset]) (by simp [hlt])
    by_cases hn:f.name="_"
    · simp only [hn,ne_eq,not_true_eq_false,if_false,Sem.run_pure]
    · simp only [hn,ne_eq,not_false_eq_true,if_true,Sem.run_bind,hp,Result.andThen_ok,hk1 _ _ _ e2,Sem.run_pure]
theorem run_checkKey {P:Program} {E:Env} {w:World} {t:TypeId} {k:MK} (hk:mkk P t=some k) {key:AV} {v:Value} (hx:Rel E w key v) (hfit:kfit k key=true) (em:Bool):(Instr.checkKey em 10000 t v).run P w=.ok () w:=by
  rcases mkk_cases hk with ⟨k',rfl,hk'⟩ | ⟨ks,rfl,hk'⟩
  · exact run_checkKey1 hk' em 9999 v
  · cases key <;> first | (cases hfit; done) | skip
    have hfit:ks.length == _:=hfit
    cases hx with
    | agg cs vs hl _=>exact run_checkKeyS hk' (by have:=hfit; simp at this; omega) em 9999 (fun t v k h=>run_checkKey1 h em 9998 v)
end Go.Abs
