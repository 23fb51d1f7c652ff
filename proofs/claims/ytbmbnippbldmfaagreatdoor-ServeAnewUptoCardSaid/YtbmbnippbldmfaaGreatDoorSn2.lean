/- Own work. -/
import Derived.Test.YtbmbnippbldmfaaGreatDoorSn1
import Derived.KernelRfl
import Derived.Laws.StructEq
import Derived.Deep.Quiet
import Derived.StillTail
set_option maxHeartbeats 64000000
namespace Go.Fw
open Go
inductive FK where
 |int (k:IntKind)
 |str
 |bool
def A8R:Value→Value→Bool
 | .int _ a,.int _ b=>decide (a=b)
 | .string a,.string b=>decide (a.toList=b.toList)
 | .bool a,.bool b=>decide (a=b)
 |_,_=>false
def A54:List Value→List Value→Bool
 | [],[]=>true
 |x::xs,y::ys=>A8R x y && A54 xs ys
 |_,_=>false
def A7H:FK→Value→Bool
 | .int j,.int k _=>decide (j=k)
 | .str,.string _=>true
 | .bool,.bool _=>true
 |_,_=>false
def A7k:List FK→List Value→Bool
 | [],[]=>true
 |k::ks,x::xs=>A7H k x && A7k ks xs
 |_,_=>false
def B64 (P:Program):Nat→List Field→List FK→Bool
 |_,[],[]=>true
 | i, f :: fs, k :: ks => !(f.name == "_") && f.offset == i && (match P.underlying f.type, k with
  |some (.int a),.int b=>decide (a=b)
  |some .string,.str=>true
  |some .bool,.bool=>true
  |_,_=>false) && B64 P (i+1) fs ks
 |_,_,_=>false
class FlatT (P:Program) (t:TypeId) (ks:outParam (List FK)):Prop where
 out:∃fs,P.underlying t=some (.struct fs)∧B64 P 0 fs.toList ks=true∧P.stoodInHeld t=false∧P.eqGuardType P.depth t=false
def C22 (P:Program) (t:TypeId) (ks:List FK):Bool:=match P.underlying t with
 |some (.struct fs)=>B64 P 0 fs.toList ks && !P.stoodInHeld t && !P.eqGuardType P.depth t
 |_=>false
theorem FlatT.of {P:Program}{t:TypeId}{ks:List FK} (h:C22 P t ks=true:=by kernel_rfl):FlatT P t ks:=by
 unfold C22 at h
 split at h
 ·rename_i fs hd;simp only[U9,Bool.not_eq_true']at h;exact⟨fs,hd,h.1.1,h.1.2,h.2⟩
 ·cases h
section
variable {P:Program}{N:Nat}{ds:List Deferred}{Q:Exit→Act→World→Prop}{l l':Log}{w w':World}{ops:Array Oper}{os:List Oper}{o:Oper}
variable {d:Nat}{ty:TypeId}{pos:String}{af:Array Edge}{g:Option (Nat×Bool)}{t t':TypeId}{x y:Operand}
theorem B4T {dd:TypeDesc} (h:P.underlying t=some dd) (h2:A7L dd=false) {cs:Array Value}{i:Nat}{v:Value} (hv:cs[i]?=some v):(part t cs i).run P w=.ok v w:=by
 simp[part,A36 h,h2,hv]
theorem B7N (xs ys:List Value):∀(fs:List Field) (ks:List FK) (i:Nat) (w:World),B64 P i fs ks=true→A7k ks (xs.drop i)=true→A7k ks (ys.drop i)=true→
  (Op.eqFields 9999 xs.toArray ys.toArray fs).run P w=.ok (A54 (xs.drop i) (ys.drop i)) w
 | [],[],i,w,_,h1,h2=>by
  have e1:xs.drop i= []:=by cases h:xs.drop i with|nil=>rfl|cons a l=>rw[h]at h1;cases h1
  have e2:ys.drop i= []:=by cases h:ys.drop i with|nil=>rfl|cons a l=>rw[h]at h2;cases h2
  simp[Op.eqFields,e1,e2,A54]
 | [],_::_,_,_,h,_,_=>by cases h
 |_::_,[],_,_,h,_,_=>by cases h
 |f::fs,k::ks,i,w,h,h1,h2=>by
  simp only[B64,U9,Bool.not_eq_true',beq_iff_eq,beq_eq_false_iff_ne]at h;obtain⟨⟨⟨hn,ho⟩,hk⟩,hr⟩:=h;cases e1:xs.drop i with
  |nil=>rw[e1]at h1;cases h1
  |cons a xs'=>
   cases e2:ys.drop i with
   |nil=>rw[e2]at h2;cases h2
   |cons b ys'=>
    have d1:xs.drop (i+1)=xs':=by rw[←A5M,e1];rfl
    have d2:ys.drop (i+1)=ys':=by rw[←A5M,e2];rfl
    have g1:xs.toArray[i]?=some a:=by
     have:(xs.drop i)[0]?=some a:=by rw[e1];rfl
     simpa using this
    have g2:ys.toArray[i]?=some b:=by
     have:(ys.drop i)[0]?=some b:=by rw[e2];rfl
     simpa using this
    rw[e1]at h1;rw[e2]at h2;simp only[A7k,U9]at h1 h2;have ih:=B7N xs ys fs ks (i+1) w hr (by rw[d1];exact h1.2) (by rw[d2];exact h2.2);rw[d1,d2]at ih;simp only[Op.eqFields];rw[if_pos hn];cases hu:P.underlying f.type with
    |none=>rw[hu]at hk;cases hk
    |some dd=>
     rw[hu]at hk;have hagg:A7L dd=false:=by
      cases dd<;>first|rfl|(cases k<;>simp at hk)
     have p1:=B4T (P:=P) (w:=w) hu hagg (i:=f.offset) (by rw[ho];exact g1);have p2:=B4T (P:=P) (w:=w) hu hagg (i:=f.offset) (by rw[ho];exact g2);have heq:(Op.equalIn 9999 f.type a b).run P w=.ok (A8R a b) w:=by
      cases k with
      |int kk=>
       cases a<;>simp[A7H]at h1
       cases b<;>simp[A7H]at h2
       cases dd<;>simp at hk
       obtain⟨e3,_⟩:=h1;obtain⟨e4,_⟩:=h2;subst e3;subst e4;rw[run_equalIn_int w 9998 f.type _ _ _ _ hu];simp[A8R,A4s]
      |str=>
       cases a<;>simp[A7H]at h1
       cases b<;>simp[A7H]at h2
       cases dd<;>simp at hk
       rw[run_equalIn_string w 9998 _ _ _ hu];simp only[A8R]
       congr 1
       exact A4s _ _
      |bool=>
       cases a<;>simp[A7H]at h1
       cases b<;>simp[A7H]at h2
       cases dd<;>simp at hk
       rw[run_equalIn_bool' w 9998 _ _ _ hu];simp only[A8R,A4s]
     simp only[Sem.run_bind,p1,p2,Result.andThen_ok,heq,A54];cases hc:A8R a b with
     |false=>simp
     |true=>simpa using ih
class TyBool (P:Program) (t:TypeId):Prop where out:P.underlying t=some .bool
end
section
variable {P:Program}{ops:Array Oper}{md:Region.Mode}{C:World->Prop}
def B0v (P:Program) (md:Region.Mode) (ops:Array Oper) (C:World->Prop) (n:Nat) (L:Array Bool->Act->Prop):Nat->Array Bool->Act->Prop
 |0,listed,a=>L listed a
 |f+1,listed,a=>Region.ready md ops listed≠ []/\∀i∈Region.ready md ops listed,i<n/\qOp P ops C i (B0v P md ops C n L f (listed.setIfInBounds i true)) a
theorem B1P {n g:Nat}{L:Array Bool->Act->Prop}{Q':Exit->Act->World->Prop} (hL:∀listed a w,C w->L listed a->wpAny P md ops Q' g listed a w):
  ∀(f:Nat) (listed:Array Bool) (a:Act) (w:World),C w->B0v P md ops C n L f listed a->wpAny P md ops Q' (f+g) listed a w
 |0,listed,a,w,hw,h=>by rw[V6];exact hL _ _ _ hw h
 |f+1,listed,a,w,hw,h=>by
  rw[show f+1+g=(f+g)+1 by omega];exact⟨fun h0=>absurd h0 h.1,fun i hi=>wpOp_of_qOp hw (fun a' w' hw' h'=>B1P hL f _ a' w' hw' h') (h.2 i hi).2⟩
theorem B3V {n i:Nat}{oi:Oper}{v:Value}{L:Array Bool->Act->Prop} (hi:ops[i]?=some oi) (hsel:∀(j:Nat) (o:Oper) cs b,ops[j]?=some o->o.op≠ .select cs b)
  (hs:Region.sinkB md ops n=true) (hc:Region.chainB md ops n=true) (hn:n<ops.size) (hin:i<n)
  (hdone:∀listed a,L listed a->∀j∈Region.ready md ops listed,n<=j):
  ∀(f:Nat) (listed:Array Bool) (a:Act),HeadInv md ops n listed->
   (∀j oj,ops[j]?=some oj->j≠i->listed.getD j true=false->(∀e∈oj.after,Region.binds md e=true->e.on≠i)->oi.apart ops oj=true)->
   i∈Region.ready md ops listed->YieldsIn P ops C oi v a->
   B0v P md ops C n L f (listed.setIfInBounds i true) (a.put oi.dst v)->B0v P md ops C n L (f+1) listed a:=by
 intro f;induction f with
 |zero=>
  intro listed a inv _ hr hy H;have hun:=(mem_ready.1 hr).1;refine⟨fun h=>(by rw[h]at hr;cases hr),fun j hj=>?_⟩
  have hjn:j<n:=by
   rcases U0 j n with h|h
   ·exact h
   ·exact absurd hj (tail_waits hs hc hn inv _ i rfl hin hun j h)
  refine⟨hjn,?_⟩
  by_cases hji:j=i
  ·subst hji;exact hy.qOp hi H
  ·have:=hdone _ _ H j (ready_mono hj hji)
   omega
 |succ f ih=>
  intro listed a inv hfree hr hy H;have hun:=(mem_ready.1 hr).1;refine⟨fun h=>(by rw[h]at hr;cases hr),fun j hj=>?_⟩
  have hjn:j<n:=by
   rcases U0 j n with h|h
   ·exact h
   ·exact absurd hj (tail_waits hs hc hn inv _ i rfl hin hun j h)
  refine⟨hjn,?_⟩
  by_cases hji:j=i
  ·subst hji;exact hy.qOp hi H
  ·have h1:=(H.2 j (ready_mono hj hji)).2
   obtain⟨hjun,oj,hoj,hall⟩:=mem_ready.1 hj;have hnot:∀e∈oj.after,Region.binds md e=true->e.on≠i:=fun e he hb heq=>by
    have h1:=hall e he hb;rw[heq,getD_both hun]at h1;cases h1
   have h2:=qOp_put hoj (hfree j oj hoj hji hjun hnot) (fun cs b=>hsel i oi cs b hi) (fun cs b=>hsel j oj cs b hoj) hy h1;have hfree':∀k ok,ops[k]?=some ok->k≠i->(listed.setIfInBounds j true).getD k true=false->
     (∀e∈ok.after,Region.binds md e=true->e.on≠i)->oi.apart ops ok=true:=fun k ok hk hki hun hno=>by
    refine hfree k ok hk hki ?_ hno
    by_cases hjk:j=k
    ·subst hjk;exact hjun
    ·rw[getD_set_ne true hjk]at hun;exact hun
   refine qOp_mono (fun a' h3=>ih (listed.setIfInBounds j true) a' (inv.set hj hjn) hfree' (ready_mono hr (Ne.symm hji)) h3.1 ?_) h2
   rw[A7Q _ _ hji];exact h3.2
theorem B1O {n g:Nat}{Lq:Act->Prop} (hsel:Region.noSelect ops=true) (hs:Region.sinkB md ops n=true) (hc:Region.chainB md ops n=true) (hn:n<ops.size):
  ∀(l:List Oper) (k:Nat) (listed:Array Bool) (a:Act),(∀j,j<l.length->l[j]?=ops[k+j]?)->k+l.length=n->HeadInv md ops n listed->
  Region.lexHead md ops g l.length k listed=true->wpQuiet P ops C Lq l a->
  B0v P md ops C n (fun listed' a'=>Region.seqB md ops g n listed'=true/\Lq a') l.length listed a
 | [],k,listed,a,_,hk,_,hB,h=>by
  have:k=n:=by simpa using hk
  subst this;exact⟨by simpa[Region.lexHead] using hB,h⟩
 |o::l,k,listed,a,hl,hk,inv,hB,h=>by
  have h0:ops[k]?=some o:=by simpa using (hl 0 (by simp)).symm
  simp only[F8,Region.lexHead,U9]at hB;obtain⟨⟨hr,hf⟩,hB'⟩:=hB;have hkn:k<n:=by simp only[F8]at hk;omega
  have hr':k∈Region.ready md ops listed:=by simpa using hr
  have hst:qOp P ops C k (wpQuiet P ops C Lq l) a:=by unfold qOp;simp only[h0];exact h
  obtain⟨v,hy,hK⟩:=yieldsIn_of_qOp h0 hst;exact B3V h0 (Region.noSelect_spec hsel) hs hc hn hkn (fun listed' a' hL=>seqB_ready hL.1) l.length listed a inv (Region.free_spec h0 hf) hr' hy
   (B1O hsel hs hc hn l (k+1) _ _ (fun j hj=>by have:=hl (j+1) (by simp;omega);simpa[A3K,A3M 1 j] using this) (by simp only[F8]at hk;omega) (inv.set hr' hkn) hB' hK)
theorem A9k {id:Nat}{Q:Exit->Act->World->Prop}{a:Act}{w:World}{l:List Oper} (n:Nat) (hm:P.follows .mixedOrders=true) (hB:Region.lexTailB .any l.toArray n=true)
  (hC:C { w with drawn:=w.drawn+1})
  (h:wpQuiet P l.toArray C (fun a'=> ∀w',C w'->wpList P l.toArray Q (l.drop n) a' w') (l.take n) a):(Code.region id l.toArray true).wp P Q a w:=by
 simp only[Region.lexTailB,U9,decide_eq_true_eq]at hB;obtain⟨⟨⟨⟨hsel,hn⟩,hs⟩,hc⟩,hlex⟩:=hB;have hn':n<l.length:=by simpa using hn
 have htl:(l.take n).length=n:=by simp;omega
 have hdl:(l.drop n).length=l.toArray.size-n:=by simp
 have inv0:HeadInv .any l.toArray n (Array.replicate l.toArray.size false):=
  ⟨by simp,fun j oj _ hl=>(by rw[getD_replicate_false]at hl;cases hl),fun t _ ht=>getD_in (by simpa using ht) (getD_replicate_false _ _)⟩
 have H:=B1O (md:=.any) (g:=l.toArray.size-n) hsel hs hc hn (l.take n) 0 _ a (fun j hj=>by
  have hj':j<n:=by rw[htl]at hj;exact hj
  simp[hj']) (by simpa using htl) inv0 (by rw[htl];exact hlex) h
 refine wp_region_any hm ?_
 have:=B1P (Q':=Q) (g:=l.toArray.size-n) (fun listed a' w' hw' hL=>by
  have:=wpAny_of_seq (md:=.any) (Q':=Q) (l.drop n) n listed a' w' (fun j=>by simp) (by rw[hdl];exact hL.1) (hL.2 w' hw')
  rwa [hdl]at this) _ _ _ _ hC H
 rw[htl,show n+(l.toArray.size-n)=l.toArray.size by omega]at this;exact this
end
section
variable {P:Program}{N:Nat}{ds:List Deferred}{K:Act->World->Prop}{Q:Exit->Act->World->Prop}{l l':Log}{w w':World}{ops:Array Oper}{os:List Oper}{o:Oper}
structure WQ (P:Program) (N:Nat) (ds:List Deferred) (ops:Array Oper) (w:World) (K:Act->World->Prop) (os:List Oper) (l:Log):Prop where
 run:∀a,Fits N ds l a->wpQuiet P ops (fun w'=>Kept [] w w') (fun a'=> ∀w',Kept [] w w'->K a' w') os a
class Mixed (P:Program):Prop where out:P.follows .mixedOrders=true
theorem U5 [Mixed P] {id:Nat}{os:List Oper} (h:WQ P N ds os.toArray w (fun a' w'=>Q .normal a' w') os l) (hB:Region.lexB .any os.toArray=true:=by kernel_rfl)
   :WC P N ds (.region id os.toArray true) Q l w:=
 ⟨fun a ha=>wp_region_quiet (C:=fun w'=>Kept [] w w') Mixed.out hB (Kept.drew w) (by simpa using h.run a ha)⟩
theorem V7 [Mixed P] {id:Nat}{os:List Oper} (n:Nat) (hB:Region.lexTailB .any os.toArray n=true:=by kernel_rfl)
  (h:WQ P N ds os.toArray w (fun a' w'=>wpList P os.toArray Q (os.drop n) a' w') (os.take n) l):WC P N ds (.region id os.toArray true) Q l w:=
 ⟨fun a ha=>A9k n Mixed.out hB (Kept.drew w) (h.run a ha)⟩
theorem A0e {os':List Oper} (h:∀w',Kept [] w w'->WL P N ds ops Q os' l w'):WQ P N ds ops w (fun a' w'=>wpList P ops Q os' a' w') [] l:=
 ⟨fun a ha=>wpQuiet_nil (fun w' hw=>(h w' hw).run a ha)⟩
theorem A0j (h:∀w',Kept [] w w'->At N ds Q .normal l w'):WQ P N ds ops w (fun a' w'=>Q .normal a' w') [] l:=
 ⟨fun a ha=>wpQuiet_nil (fun w' hw=>(h w' hw).run a ha)⟩
theorem A0X {d:Nat}{v:Value} (hd:o.dst=some d) (hw:U4 ops l o=some true) (hN:Nat.blt d N=true)
  (hrun:∀w',Kept [] w w'->∀a,Fits N ds l a->(execOp a.eval o).run P w'=.ok (.value v) w')
  (k:WQ P N ds ops w K os ((d,v)::l)):WQ P N ds ops w K (o::os) l:=
 ⟨fun a ha=>by
  unfold wpQuiet
  rw[A23 ha hw];refine⟨v,fun w' hw'=>?_,by rw[hd];exact k.run _ (ha.put hN v)⟩
  unfold Oper.quietAt
  rw[hrun w' hw' a ha];exact⟨rfl,rfl⟩⟩
theorem A38 {d:Nat} (k:WQ P N ds ops w K os ((d,undef)::l)) (hd:o.dst=some d:=by rfl) (hw:U4 ops l o=some false:=by rfl) (hN:Nat.blt d N=true:=by rfl)
   :WQ P N ds ops w K (o::os) l:=⟨fun a ha=>by
 unfold wpQuiet
 rw[A23 ha hw,hd];exact k.run _ (ha.put hN _)⟩
theorem C4C {j:Nat}{b:Bool}{c:Bool}{t:Nat} (_hg:o.guard=some (j,c):=by rfl) (_ht:(ops[j]?).bind (·.dst)=some t:=by rfl) (hb:lk l t=some (.bool b):=by rfl)
  (h1:b=true->WQ P N ds ops w K (o::os) ((t,.bool true)::l)) (h0:b=false->WQ P N ds ops w K (o::os) ((t,.bool false)::l)):
  WQ P N ds ops w K (o::os) l:=by
 have key:∀c,b=c->WQ P N ds ops w K (o::os) ((t,.bool c)::l)->WQ P N ds ops w K (o::os) l:=fun c e h=>⟨fun a ha=>by
  subst e;refine h.run a ⟨ha.size,ha.defs,fun s v hv=>?_⟩
  simp only[lk]at hv;cases hs:Nat.beq s t with
  |true=>rw[hs]at hv;have:=A3O hs;subst this;simp at hv;subst hv;exact ha.vals _ _ hb
  |false=>rw[hs]at hv;exact ha.vals _ _ (by simpa using hv)⟩
 cases hb':b with
 |true=>exact key true hb' (h1 hb')
 |false=>exact key false hb' (h0 hb')
theorem Y6 {j:Nat}{p:Prop} [Decidable p] {c:Bool}{t:Nat} (h0:¬p->WQ P N ds ops w K (o::os) ((t,.bool false)::l)) (hg:o.guard=some (j,c):=by rfl) (ht:(ops[j]?).bind (·.dst)=some t:=by rfl) (hb:lk l t=some (.bool (decide p)):=by rfl)
  (h1:p->WQ P N ds ops w K (o::os) ((t,.bool true)::l))  :
  WQ P N ds ops w K (o::os) l:=
 C4C hg ht hb (fun h=>h1 (of_decide_eq_true h)) (fun h=>h0 (of_decide_eq_false h))
theorem B8k {d:Nat}{v:Value}{f:FuncId}{args:Array Value} (hd:o.dst=some d) (hw:U4 ops l o=some true) (hN:Nat.blt d N=true)
  (hrun:∀w' a,Fits N ds l a->(execOp a.eval o).run P w'=.ok (.enter f args) w')
  (hc:∀w',Kept [] w w'->Cal P f args w' (fun u w''=>u=v/\Kept [] w' w''))
  (k:WQ P N ds ops w K os ((d,v)::l)):WQ P N ds ops w K (o::os) l:=
 ⟨fun a ha=>by
  unfold wpQuiet
  rw[A23 ha hw];refine⟨v,fun w' hw'=>?_,by rw[hd];exact k.run _ (ha.put hN v)⟩
  unfold Oper.quietAt
  rw[hrun w' a ha];refine⟨rfl,Calls.mono (hc w' hw').run (fun e w2 q=>?_)⟩
  cases e with
  |returned u=>exact⟨by rw[q.1],hw'.trans q.2⟩
  |panicked c=>exact q.elim
  |outgrown=>exact q.elim⟩
end
class TyInt (P:Program) (t:TypeId) (k:outParam IntKind):Prop where out:P.underlying t=some (.int k)
class TyArr (P:Program) (t:TypeId) (n:outParam Nat) (e:outParam TypeId):Prop where out:P.underlying t=some (.array n e)
section
variable {P:Program}{N:Nat}{ds:List Deferred}{Q:Exit->Act->World->Prop}{l l':Log}{w w':World}{ops:Array Oper}{os:List Oper}{o:Oper}
variable {d:Nat}{ty:TypeId}{pos:String}{af:Array Edge}{g:Option (Nat×Bool)}{t t':TypeId}{x y:Operand}{ik:IntKind}
class Fld1 (P:Program) (t:TypeId) (i:Nat) (off:outParam Nat):Prop where
 out:∃fs f dd,P.underlying t=some (.struct fs)/\fs[i]?=some f/\f.offset=off/\P.underlying f.type=some dd/\A7L dd=false
theorem E5 {p:Addr} (k:WL P N ds ops Q os ((d,.pointer (some p))::l) w) (hw:U4 ops l ⟨some d,.nilCheck x,ty,pos,af,g⟩=some true:=by rfl) (hN:Nat.blt d N=true:=by rfl)
  (hx:ev l x=some (.pointer (some p)):=by rfl)  :WL P N ds ops Q (⟨some d,.nilCheck x,ty,pos,af,g⟩::os) l w:=
 U6 rfl hw hN (fun c hc=>by simp[execOp,hc.ev hx]) k
theorem C65 {a b:Int} (k:WL P N ds ops Q os ((d,.int .i64 (a *b))::l) w) (hw:U4 ops l ⟨some d,.binOp .mul t x y t',ty,pos,af,g⟩=some true:=by rfl) (hN:Nat.blt d N=true:=by rfl)
  (hx:ev l x=some (.int .i64 a):=by rfl) (hy:ev l y=some (.int .i64 b):=by rfl) (h: -9223372036854775808<=a *b/\a *b<=9223372036854775807:=by omega)
   :WL P N ds ops Q (⟨some d,.binOp .mul t x y t',ty,pos,af,g⟩::os) l w:=
 U6 rfl hw hN (fun c hc=>by simp[execOp,hc.ev hx,hc.ev hy,eqGuard,binOp,Op.intArith,IntWalk.i64_in _ h]) k
theorem A7t {a b:Int} (k:WL P N ds ops Q os ((d,.int .u8 (a-b))::l) w) (hw:U4 ops l ⟨some d,.binOp .sub t x y t',ty,pos,af,g⟩=some true:=by rfl) (hN:Nat.blt d N=true:=by rfl)
  (hx:ev l x=some (.int .u8 a):=by rfl) (hy:ev l y=some (.int .u8 b):=by rfl) (h:0<=a-b/\a-b<=255:=by omega)
   :WL P N ds ops Q (⟨some d,.binOp .sub t x y t',ty,pos,af,g⟩::os) l w:=
 U6 rfl hw hN (fun c hc=>by simp[execOp,hc.ev hx,hc.ev hy,eqGuard,binOp,Op.intArith,IntWalk.u8_in _ h]) k
theorem A7i {a:Int} (h:0<=a/\a<=9223372036854775807):(BitVec.ofInt 64 a).toNat=a.toNat:=by
 rw[BitVec.toNat_ofInt,Int.emod_eq_of_lt h.1 (by have:((2 ^ 64:Nat):Int)=18446744073709551616:=(by decide);omega)]
theorem B5D {a b:Int} (k:WL P N ds ops Q os ((d,.int .i64 ((a.toNat &&& b.toNat:Nat):Int))::l) w) (hw:U4 ops l ⟨some d,.binOp .and t x y t',ty,pos,af,g⟩=some true:=by rfl) (hN:Nat.blt d N=true:=by rfl)
  (hx:ev l x=some (.int .i64 a):=by rfl) (hy:ev l y=some (.int .i64 b):=by rfl) (h:0<=a/\a<=9223372036854775807:=by omega) (h':0<=b/\b<=9223372036854775807:=by omega)
   :WL P N ds ops Q (⟨some d,.binOp .and t x y t',ty,pos,af,g⟩::os) l w:=
 U6 rfl hw hN (fun c hc=>by
  have h1:a.toNat &&& b.toNat<=a.toNat:=Nat.and_le_left;have h2:(BitVec.ofInt IntKind.i64.bits a &&& BitVec.ofInt IntKind.i64.bits b).toNat=a.toNat &&& b.toNat:=by
   rw[BitVec.toNat_and];exact congr (congrArg _ (A7i h)) (A7i h')
  simp only[execOp,hc.ev hx,hc.ev hy,eqGuard,binOp,Op.intBits,h2,IntWalk.i64_in ((a.toNat &&& b.toNat:Nat):Int) (by omega)];simp) k
theorem B7w {a b:Int} (k:WL P N ds ops Q os ((d,.int .i64 ((a.toNat|||b.toNat:Nat):Int))::l) w) (hw:U4 ops l ⟨some d,.binOp .or t x y t',ty,pos,af,g⟩=some true:=by rfl) (hN:Nat.blt d N=true:=by rfl)
  (hx:ev l x=some (.int .i64 a):=by rfl) (hy:ev l y=some (.int .i64 b):=by rfl) (h:0<=a/\a<4294967296:=by omega) (h':0<=b/\b<4294967296:=by omega)
   :WL P N ds ops Q (⟨some d,.binOp .or t x y t',ty,pos,af,g⟩::os) l w:=
 U6 rfl hw hN (fun c hc=>by
  have h1:a.toNat|||b.toNat<2 ^ 32:=Nat.or_lt_two_pow (by omega) (by omega)
  have h2:(BitVec.ofInt IntKind.i64.bits a|||BitVec.ofInt IntKind.i64.bits b).toNat=a.toNat|||b.toNat:=by
   rw[BitVec.toNat_or];exact congr (congrArg _ (A7i (by omega))) (A7i (by omega))
  simp only[execOp,hc.ev hx,hc.ev hy,eqGuard,binOp,Op.intBits,h2,IntWalk.i64_in ((a.toNat|||b.toNat:Nat):Int) (by omega)];simp) k
theorem C1y {a b:Int} (k:WL P N ds ops Q os ((d,.int .i64 ((a.toNat &&& (2 ^ 64-1-b.toNat):Nat):Int))::l) w) (hw:U4 ops l ⟨some d,.binOp .andNot t x y t',ty,pos,af,g⟩=some true:=by rfl) (hN:Nat.blt d N=true:=by rfl)
  (hx:ev l x=some (.int .i64 a):=by rfl) (hy:ev l y=some (.int .i64 b):=by rfl) (h:0<=a/\a<=9223372036854775807:=by omega) (h':0<=b/\b<=9223372036854775807:=by omega)
   :WL P N ds ops Q (⟨some d,.binOp .andNot t x y t',ty,pos,af,g⟩::os) l w:=
 U6 rfl hw hN (fun c hc=>by
  have h1:a.toNat &&& (2 ^ 64-1-b.toNat)<=a.toNat:=Nat.and_le_left;have h2:(BitVec.ofInt IntKind.i64.bits a &&& ~~~ BitVec.ofInt IntKind.i64.bits b).toNat=a.toNat &&& (2 ^ 64-1-b.toNat):=by
   rw[BitVec.toNat_and,BitVec.toNat_not];exact congr (congrArg _ (A7i h)) (congrArg (2 ^ 64-1- ·) (A7i h'))
  simp only[execOp,hc.ev hx,hc.ev hy,eqGuard,binOp,Op.intBits,h2,IntWalk.i64_in ((a.toNat &&& (2 ^ 64-1-b.toNat):Nat):Int) (by omega)];simp) k
theorem B5F {a b:Int}{yk:IntKind} (hw:U4 ops l ⟨some d,.binOp .shl t x y t',ty,pos,af,g⟩=some true:=by rfl) (hN:Nat.blt d N=true:=by rfl)
  (hx:ev l x=some (.int .i64 a):=by rfl) (hy:ev l y=some (.int yk b):=by rfl) (h:0<=b/\b<=62:=by omega) (h':0<=a *2 ^ b.toNat/\a *2 ^ b.toNat<=9223372036854775807)
  (k:WL P N ds ops Q os ((d,.int .i64 (a *2 ^ b.toNat))::l) w):WL P N ds ops Q (⟨some d,.binOp .shl t x y t',ty,pos,af,g⟩::os) l w:=
 U6 rfl hw hN (fun c hc=>by
  have h1:min b.toNat IntKind.i64.bits=b.toNat:=by simp[IntKind.bits];omega
  have h2:¬b<0:=by omega
  simp only[execOp,hc.ev hx,hc.ev hy,eqGuard,binOp,Op.shift,h1,if_neg h2,IntWalk.i64_in (a *2 ^ b.toNat) (by omega)];simp) k
theorem B9h {a b:Int}{yk:IntKind} (hw:U4 ops l ⟨some d,.binOp .shr t x y t',ty,pos,af,g⟩=some true:=by rfl) (hN:Nat.blt d N=true:=by rfl)
  (hx:ev l x=some (.int .i64 a):=by rfl) (hy:ev l y=some (.int yk b):=by rfl) (h:0<=b/\b<=62:=by omega)
  (k:WL P N ds ops Q os ((d,.int .i64 (a.fdiv (2 ^ b.toNat)))::l) w):WL P N ds ops Q (⟨some d,.binOp .shr t x y t',ty,pos,af,g⟩::os) l w:=
 U6 rfl hw hN (fun c hc=>by
  have h1:min b.toNat IntKind.i64.bits=b.toNat:=by simp[IntKind.bits];omega
  have h2:¬b<0:=by omega
  simp only[execOp,hc.ev hx,hc.ev hy,eqGuard,binOp,Op.shift,h1,if_neg h2];simp) k
theorem B9e {ik' ik2:IntKind} [TyInt P t ik2] [TyInt P t' ik'] {a:Int} (hw:U4 ops l ⟨some d,.convert t t' x,ty,pos,af,g⟩=some true:=by rfl) (hN:Nat.blt d N=true:=by rfl)
  (hx:ev l x=some (.int ik a):=by rfl) (k:WL P N ds ops Q os ((d,.int ik' (ik'.wrap a))::l) w):
  WL P N ds ops Q (⟨some d,.convert t t' x,ty,pos,af,g⟩::os) l w:=
 U6 rfl hw hN (fun c hc=>by
  have h1:=run_underlying (P:=P) (w:=w) (TyInt.out (P:=P) (t:=t));have h2:=run_underlying (P:=P) (w:=w) (TyInt.out (P:=P) (t:=t'));simp[execOp,hc.ev hx,convert,Conv.intToInt,h1,h2]) k
theorem A8a {fn:Func}{t:Nat}{tc:TypeId} (h:fn.results= #[.cell t tc]) (tmps:Array Value) (w:World) {b off:Nat}{v:Value} (ht:tmps[t]?=some (.pointer (some ⟨b,off,none⟩)))
  (hv:(loadVar tc ⟨b,off,none⟩).run P w=.ok v w):(results fn tmps).run P w=.ok v w:=by
 simp[results,h,ht,asAddr,hv]
theorem A5S {t n b off:Nat} [TyAgg P t n] {c:Array Value}{e:TypeId}{fr:Nat×Nat}{vs:List Value}
  (hb:w.heap[b]?=some (.cells c e fr)) (hl:vs.length=n) (hc:∀j v,vs[j]?=some v->c[off+j]?=some v):(loadVar t ⟨b,off,none⟩).run P w=.ok (.agg vs.toArray) w:=by
 obtain⟨dd,i,h1,h2,h3,h4⟩:=TyAgg.out (P:=P) (t:=t);have h5:=run_loadCells_list (P:=P) w ⟨b,off,none⟩ vs (fun j v hv=>by rw[Addr.add_lit];exact A2j hb (hc j v hv));rw[hl]at h5;simp[loadVar,A36 h1,h2,sizeOf,typeInfo,h3,h4,h5]
theorem B30 {fn:Func}{t u:Nat}{tc:TypeId} (h:fn.results= #[.cell t tc,.tmp u]) (tmps:Array Value) (w:World) {b off:Nat}{v x:Value} (ht:tmps[t]?=some (.pointer (some ⟨b,off,none⟩)))
  (hu:tmps[u]?=some x) (hv:(loadVar tc ⟨b,off,none⟩).run P w=.ok v w):(results fn tmps).run P w=.ok (.tuple #[v,x]) w:=by
 simp[results,h,ht,hu,asAddr,hv]
theorem B6C {fn:Func}{t u n b off:Nat}{tc:TypeId} [TyAgg P tc n] {c:Array Value}{e:TypeId}{fr:Nat×Nat}{vs:List Value}{xv:Value}{Post:Value->World->Prop} (hr:fn.results= #[.cell t tc,.tmp u])
  (hx:lk l t=some (.pointer (some ⟨b,off,none⟩))) (hu:lk l u=some xv) (hb:w.heap[b]?=some (.cells c e fr)) (hl:vs.length=n) (hc:∀j v,vs[j]?=some v->c[off+j]?=some v)
  (h:Post (.tuple #[.agg vs.toArray,xv]) w):At N [] (bodyPost P fn (Ret Post)) .ret l w:=
 ⟨fun a ha=>⟨ha.defs,_,B30 hr a.tmps w (ha.vals t _ hx) (ha.vals u _ hu) (A5S hb hl hc),h⟩⟩
theorem B8u {fn:Func}{t n b off:Nat}{tc:TypeId} [TyAgg P tc n] {c:Array Value}{e:TypeId}{fr:Nat×Nat}{vs:List Value}{Post:Value->World->Prop} (hr:fn.results= #[.cell t tc])
  (hx:lk l t=some (.pointer (some ⟨b,off,none⟩))) (hb:w.heap[b]?=some (.cells c e fr)) (hl:vs.length=n) (hc:∀j v,vs[j]?=some v->c[off+j]?=some v)
  (h:Post (.agg vs.toArray) w):At N [] (bodyPost P fn (Ret Post)) .ret l w:=
 ⟨fun a ha=>⟨ha.defs,_,A8a hr a.tmps w (ha.vals t _ hx) (A5S hb hl hc),h⟩⟩
end
section
variable {P:Program}{N:Nat}{ds:List Deferred}{K:Act->World->Prop}{l l':Log}{w w':World}{ops:Array Oper}{os:List Oper}{o:Oper}
variable {d:Nat}{ty:TypeId}{pos:String}{af:Array Edge}{g:Option (Nat×Bool)}{t t':TypeId}{x y:Operand}{ik:IntKind}
theorem X5 {x:Operand}{v:Value} (k:WQ P N ds ops w K os ((d,v)::l)) (hw:U4 ops l ⟨some d,.move x,ty,pos,af,g⟩=some true:=by rfl) (hN:Nat.blt d N=true:=by rfl) (hx:ev l x=some v:=by rfl)
   :WQ P N ds ops w K (⟨some d,.move x,ty,pos,af,g⟩::os) l:=
 A0X rfl hw hN (fun w' hkq a ha=>by simp[execOp,ha.ev hx]) k
theorem A1X {x:Operand}{v:Value} (k:WQ P N ds ops w K os ((d,v)::l)) (hw:U4 ops l ⟨some d,.assign x,ty,pos,af,g⟩=some true:=by rfl) (hN:Nat.blt d N=true:=by rfl) (hx:ev l x=some v:=by rfl)
   :WQ P N ds ops w K (⟨some d,.assign x,ty,pos,af,g⟩::os) l:=
 A0X rfl hw hN (fun w' hkq a ha=>by simp[execOp,ha.ev hx]) k
theorem A0p {c x y:Operand}{v:Value} (k:WQ P N ds ops w K os ((d,v)::l)) (hw:U4 ops l ⟨some d,.pick c x y,ty,pos,af,g⟩=some true:=by rfl) (hN:Nat.blt d N=true:=by rfl)
  (hc:ev l c=some (.bool true):=by rfl) (hx:ev l x=some v:=by rfl)  :WQ P N ds ops w K (⟨some d,.pick c x y,ty,pos,af,g⟩::os) l:=
 A0X rfl hw hN (fun w' hkq a ha=>by simp[execOp,ha.ev hc,ha.ev hx,asBool]) k
theorem A09 {c x y:Operand}{v:Value} (k:WQ P N ds ops w K os ((d,v)::l)) (hw:U4 ops l ⟨some d,.pick c x y,ty,pos,af,g⟩=some true:=by rfl) (hN:Nat.blt d N=true:=by rfl)
  (hc:ev l c=some (.bool false):=by rfl) (hy:ev l y=some v:=by rfl)  :WQ P N ds ops w K (⟨some d,.pick c x y,ty,pos,af,g⟩::os) l:=
 A0X rfl hw hN (fun w' hkq a ha=>by simp[execOp,ha.ev hc,ha.ev hy,asBool]) k
theorem A2y {a b:Int} (k:WQ P N ds ops w K os ((d,.bool (decide (a<b)))::l)) (hw:U4 ops l ⟨some d,.binOp .lss t x y t',ty,pos,af,g⟩=some true:=by rfl) (hN:Nat.blt d N=true:=by rfl) (hx:ev l x=some (.int ik a):=by rfl) (hy:ev l y=some (.int ik b):=by rfl)
   :WQ P N ds ops w K (⟨some d,.binOp .lss t x y t',ty,pos,af,g⟩::os) l:=
 A0X rfl hw hN (fun w' hkq c hc=>by simp[execOp,hc.ev hx,hc.ev hy,eqGuard,binOp,Op.intCmp]) k
theorem C6t {a b:Int} (k:WQ P N ds ops w K os ((d,.bool (decide (a<=b)))::l)) (hw:U4 ops l ⟨some d,.binOp .leq t x y t',ty,pos,af,g⟩=some true:=by rfl) (hN:Nat.blt d N=true:=by rfl) (hx:ev l x=some (.int ik a):=by rfl) (hy:ev l y=some (.int ik b):=by rfl)
   :WQ P N ds ops w K (⟨some d,.binOp .leq t x y t',ty,pos,af,g⟩::os) l:=
 A0X rfl hw hN (fun w' hkq c hc=>by simp[execOp,hc.ev hx,hc.ev hy,eqGuard,binOp,Op.intCmp]) k
theorem A62 {a b:Int} (k:WQ P N ds ops w K os ((d,.bool (decide (a=b)))::l)) (hw:U4 ops l ⟨some d,.binOp .eql t x y t',ty,pos,af,g⟩=some true:=by rfl) (hN:Nat.blt d N=true:=by rfl) (hx:ev l x=some (.int ik a):=by rfl) (hy:ev l y=some (.int ik b):=by rfl)
   :WQ P N ds ops w K (⟨some d,.binOp .eql t x y t',ty,pos,af,g⟩::os) l:=
 A0X rfl hw hN (fun w' hkq c hc=>by simp[execOp,hc.ev hx,hc.ev hy,eqGuard,binOp,Op.intCmp,A4s]) k
theorem B7J {a b:Int} (k:WQ P N ds ops w K os ((d,.bool (decide (a≠b)))::l)) (hw:U4 ops l ⟨some d,.binOp .neq t x y t',ty,pos,af,g⟩=some true:=by rfl) (hN:Nat.blt d N=true:=by rfl) (hx:ev l x=some (.int ik a):=by rfl) (hy:ev l y=some (.int ik b):=by rfl)
   :WQ P N ds ops w K (⟨some d,.binOp .neq t x y t',ty,pos,af,g⟩::os) l:=
 A0X rfl hw hN (fun w' hkq c hc=>by simp[execOp,hc.ev hx,hc.ev hy,eqGuard,binOp,Op.intCmp,A4s,bne]) k
theorem C1M [TyStr P t] {s:List UInt8} (k:WQ P N ds ops w K os ((d,.int .i64 (s.length:Int))::l)) (hw:U4 ops l ⟨some d,.call ⟨.builtin .len, #[x], #[t]⟩,ty,pos,af,g⟩=some true:=by rfl) (hN:Nat.blt d N=true:=by rfl)
  (hx:ev l x=some (str s):=by rfl)  :
  WQ P N ds ops w K (⟨some d,.call ⟨.builtin .len, #[x], #[t]⟩,ty,pos,af,g⟩::os) l:=
 A0X rfl hw hN (fun w' hkq a ha=>by
  have h1:=run_underlying (P:=P) (w:=w') (TyStr.out (P:=P) (t:=t));simp[execOp,resolve,invoke,builtin,Builtin.len_,ha.ev hx,h1,goInt,A2h]) k
theorem V4 {e:TypeId} [TySlice P t e] {b:Option Addr}{n c:Nat} (k:WQ P N ds ops w K os ((d,.int .i64 (n:Int))::l)) (hw:U4 ops l ⟨some d,.call ⟨.builtin .len, #[x], #[t]⟩,ty,pos,af,g⟩=some true:=by rfl) (hN:Nat.blt d N=true:=by rfl)
  (hx:ev l x=some (.slice b n c):=by rfl)  :
  WQ P N ds ops w K (⟨some d,.call ⟨.builtin .len, #[x], #[t]⟩,ty,pos,af,g⟩::os) l:=
 A0X rfl hw hN (fun w' hkq a ha=>by
  have h1:=run_underlying (P:=P) (w:=w') (TySlice.out (P:=P) (t:=t));simp[execOp,resolve,invoke,builtin,Builtin.len_,ha.ev hx,h1,goInt]) k
theorem A9b [TyStr P t] {s:List UInt8}{z:Operand}{a b:Int} (k:WQ P N ds ops w K os ((d,str ((s.drop a.toNat).take (b.toNat-a.toNat)))::l)) (hw:U4 ops l ⟨some d,.slice t x (some y) (some z) none,ty,pos,af,g⟩=some true:=by rfl) (hN:Nat.blt d N=true:=by rfl)
  (hx:ev l x=some (str s):=by rfl) (hy:ev l y=some (.int .i64 a):=by rfl) (hz:ev l z=some (.int .i64 b):=by rfl) (h0:0<=a/\a<=b/\b<=s.length:=by omega)
   :
  WQ P N ds ops w K (⟨some d,.slice t x (some y) (some z) none,ty,pos,af,g⟩::os) l:=
 A0X rfl hw hN (fun w' hkq c hc=>by
  obtain⟨i,rfl⟩:=A5o h0.1;obtain⟨j,rfl⟩:=A5o (Int.le_trans h0.1 h0.2.1);have h2:=run_underlying (P:=P) (w:=w') (TyStr.out (P:=P) (t:=t));have h3:i<=j:=by omega
  have h4:j<=s.length:=by omega
  simp[execOp,Instr.sliceAt,Instr.slice,Instr.sliceBounds,Instr.sliceBound,hc.ev hx,hc.ev hy,hc.ev hz,h2,asIntOf,A2h,A4P,h3,h4]) k
theorem B5P [TyStr P t] {s:List UInt8}{a:Int} (k:WQ P N ds ops w K os ((d,str (s.drop a.toNat))::l)) (hw:U4 ops l ⟨some d,.slice t x (some y) none none,ty,pos,af,g⟩=some true:=by rfl) (hN:Nat.blt d N=true:=by rfl)
  (hx:ev l x=some (str s):=by rfl) (hy:ev l y=some (.int .i64 a):=by rfl) (h0:0<=a/\a<=s.length:=by omega)
   :
  WQ P N ds ops w K (⟨some d,.slice t x (some y) none none,ty,pos,af,g⟩::os) l:=
 A0X rfl hw hN (fun w' hkq c hc=>by
  have h2:=run_underlying (P:=P) (w:=w') (TyStr.out (P:=P) (t:=t));have h4:(s.drop a.toNat).take (s.length-a.toNat)=s.drop a.toNat:=A0u (by simp);simp[execOp,Instr.sliceAt,Instr.slice,Instr.sliceBounds,Instr.sliceBound,hc.ev hx,hc.ev hy,h2,asIntOf,h0,A2h,A4P,h4]) k
theorem B9u [TyStr P t] {s:List UInt8}{b:Int} (k:WQ P N ds ops w K os ((d,str (s.take b.toNat))::l)) (hw:U4 ops l ⟨some d,.slice t x none (some y) none,ty,pos,af,g⟩=some true:=by rfl) (hN:Nat.blt d N=true:=by rfl)
  (hx:ev l x=some (str s):=by rfl) (hy:ev l y=some (.int .i64 b):=by rfl) (h0:0<=b/\b<=s.length:=by omega)
   :
  WQ P N ds ops w K (⟨some d,.slice t x none (some y) none,ty,pos,af,g⟩::os) l:=
 A0X rfl hw hN (fun w' hkq c hc=>by
  have h2:=run_underlying (P:=P) (w:=w') (TyStr.out (P:=P) (t:=t));simp[execOp,Instr.sliceAt,Instr.slice,Instr.sliceBounds,Instr.sliceBound,hc.ev hx,hc.ev hy,h2,asIntOf,h0,A2h,A4P]) k
theorem A9x {s u:List UInt8} (k:WQ P N ds ops w K os ((d,.bool (decide (s=u)))::l)) (hw:U4 ops l ⟨some d,.binOp .eql t x y t',ty,pos,af,g⟩=some true:=by rfl) (hN:Nat.blt d N=true:=by rfl)
  (hx:ev l x=some (str s):=by rfl) (hy:ev l y=some (str u):=by rfl)  :
  WQ P N ds ops w K (⟨some d,.binOp .eql t x y t',ty,pos,af,g⟩::os) l:=
 A0X rfl hw hN (fun w' hkq c hc=>by simp[execOp,hc.ev hx,hc.ev hy,eqGuard,binOp,Op.stringOp];exact A4s s u) k
theorem A1M {s u:List UInt8} (k:WQ P N ds ops w K os ((d,.bool (decide (s≠u)))::l)) (hw:U4 ops l ⟨some d,.binOp .neq t x y t',ty,pos,af,g⟩=some true:=by rfl) (hN:Nat.blt d N=true:=by rfl)
  (hx:ev l x=some (str s):=by rfl) (hy:ev l y=some (str u):=by rfl)  :
  WQ P N ds ops w K (⟨some d,.binOp .neq t x y t',ty,pos,af,g⟩::os) l:=
 A0X rfl hw hN (fun w' hkq c hc=>by simp[execOp,hc.ev hx,hc.ev hy,eqGuard,binOp,Op.stringOp];exact A4s s u) k
theorem B4P {s u:List UInt8} (k:WQ P N ds ops w K os ((d,str (s++u))::l)) (hw:U4 ops l ⟨some d,.binOp .add t x y t',ty,pos,af,g⟩=some true:=by rfl) (hN:Nat.blt d N=true:=by rfl)
  (hx:ev l x=some (str s):=by rfl) (hy:ev l y=some (str u):=by rfl) (h:s.length+u.length<=9223372036854775807)  :
  WQ P N ds ops w K (⟨some d,.binOp .add t x y t',ty,pos,af,g⟩::os) l:=
 A0X rfl hw hN (fun w' hkq c hc=>by
  have h1:¬((s.length+u.length:Nat):Int)>IntKind.i64.max:=by simp[IntKind.max,IntKind.bits,IntKind.signed];omega
  simp only[execOp,hc.ev hx,hc.ev hy,eqGuard,binOp,Op.stringOp,A2h,A8n,if_neg h1];simp) k
theorem A9W {a b:Int} (k:WQ P N ds ops w K os ((d,.int .i64 (a+b))::l)) (hw:U4 ops l ⟨some d,.binOp .add t x y t',ty,pos,af,g⟩=some true:=by rfl) (hN:Nat.blt d N=true:=by rfl)
  (hx:ev l x=some (.int .i64 a):=by rfl) (hy:ev l y=some (.int .i64 b):=by rfl) (h: -9223372036854775808<=a+b/\a+b<=9223372036854775807:=by omega)
   :WQ P N ds ops w K (⟨some d,.binOp .add t x y t',ty,pos,af,g⟩::os) l:=
 A0X rfl hw hN (fun w' hkq c hc=>by simp[execOp,hc.ev hx,hc.ev hy,eqGuard,binOp,Op.intArith,IntWalk.i64_in _ h]) k
theorem C3X {b:Bool} (k:WQ P N ds ops w K os ((d,.bool (!b))::l)) (hw:U4 ops l ⟨some d,.unOp .not t x,ty,pos,af,g⟩=some true:=by rfl) (hN:Nat.blt d N=true:=by rfl)
  (hx:ev l x=some (.bool b):=by rfl)  :WQ P N ds ops w K (⟨some d,.unOp .not t x,ty,pos,af,g⟩::os) l:=
 A0X rfl hw hN (fun w' hkq c hc=>by simp[execOp,hc.ev hx,Op.unary]) k
theorem B2y [TyOne P t] {b off:Nat}{c:Array Value}{e:TypeId}{fr:Nat×Nat}{v:Value} (hw:U4 ops l ⟨some d,.load t x,ty,pos,af,g⟩=some true:=by rfl) (hN:Nat.blt d N=true:=by rfl)
  (hx:ev l x=some (.pointer (some ⟨b,off,none⟩)):=by rfl) (hb:w.heap[b]?=some (.cells c e fr):=by assumption) (hc:c[off]?=some v:=by rfl)
  (k:WQ P N ds ops w K os ((d,v)::l)):WQ P N ds ops w K (⟨some d,.load t x,ty,pos,af,g⟩::os) l:=
 A0X rfl hw hN (fun w' hkq a ha=>by
  obtain⟨dd,h1,h2⟩:=TyOne.out (P:=P) (t:=t);have h4:=A2j (hkq.get0 hb) hc;simp[execOp,Instr.loadAt,Instr.sureAddr,loadVar,A36 h1,h2,ha.ev hx,load,Sem.run,h4]) k
theorem L6 {i off:Nat} [Fld P t i off] {b o':Nat} (k:WQ P N ds ops w K os ((d,.pointer (some ⟨b,o'+off,none⟩))::l)) (hw:U4 ops l ⟨some d,.fieldAddr t x i,ty,pos,af,g⟩=some true:=by rfl) (hN:Nat.blt d N=true:=by rfl)
  (hx:ev l x=some (.pointer (some ⟨b,o',none⟩)):=by rfl)  :
  WQ P N ds ops w K (⟨some d,.fieldAddr t x i,ty,pos,af,g⟩::os) l:=
 A0X rfl hw hN (fun w' hkq a ha=>by
  obtain⟨fs,f,inf,h1,h2,h3,h4,h5⟩:=Fld.out (P:=P) (t:=t) (i:=i);have h6:=run_underlying (P:=P) (w:=w') h1;simp[execOp,Instr.fieldAt,Instr.sureAddr,ha.ev hx,h6,h2,fieldPlace,sizeOf,typeInfo,h4,h5,h3,Addr.add_lit]) k
theorem B13 {e:TypeId}{sz by_:Nat} [TySlice P t e] [Elem P e sz by_] {b o' n cp:Nat}{i:Int} (hw:U4 ops l ⟨some d,.indexAddr t x y,ty,pos,af,g⟩=some true:=by rfl) (hN:Nat.blt d N=true:=by rfl)
  (hx:ev l x=some (.slice (some ⟨b,o',none⟩) n cp):=by rfl) (hy:ev l y=some (.int .i64 i):=by rfl) (h0:0<=i:=by omega) (h1:i<n:=by omega)
  (k:WQ P N ds ops w K os ((d,.pointer (some ⟨b,o'+i.toNat *sz,none⟩))::l)):
  WQ P N ds ops w K (⟨some d,.indexAddr t x y,ty,pos,af,g⟩::os) l:=
 A0X rfl hw hN (fun w' hkq a ha=>by
  obtain⟨inf,z,hi,_,hs,_,_,_⟩:=Elem.out (P:=P) (e:=e);have h6:=run_underlying (P:=P) (w:=w') (TySlice.out (P:=P) (t:=t));simp[execOp,Instr.indexAt,asIntOf,ha.ev hx,ha.ev hy,h6,h0,h1,sizeOf,typeInfo,hi,hs,Addr.add_lit]) k
theorem C5G {n:Nat} [TyAgg P t n] {b off:Nat}{c:Array Value}{e:TypeId}{fr:Nat×Nat}{vs:List Value} (hw:U4 ops l ⟨some d,.load t x,ty,pos,af,g⟩=some true) (hN:Nat.blt d N=true)
  (hx:ev l x=some (.pointer (some ⟨b,off,none⟩))) (hb:w.heap[b]?=some (.cells c e fr)) (hl:vs.length=n) (hc:∀j v,vs[j]?=some v->c[off+j]?=some v)
  (k:WQ P N ds ops w K os ((d,.agg vs.toArray)::l)):WQ P N ds ops w K (⟨some d,.load t x,ty,pos,af,g⟩::os) l:=
 A0X rfl hw hN (fun w' hkq a ha=>by
  obtain⟨dd,i,h1,h2,h3,h4⟩:=TyAgg.out (P:=P) (t:=t);have h5:=run_loadCells_list (P:=P) w' ⟨b,off,none⟩ vs (fun j v hv=>by rw[Addr.add_lit];exact A2j (hkq.get0 hb) (hc j v hv));rw[hl]at h5;simp[execOp,Instr.loadAt,Instr.sureAddr,loadVar,A36 h1,h2,ha.ev hx,sizeOf,typeInfo,h3,h4,h5]) k
theorem B7K {places:List (Nat×Nat)}{zero:List Value} [StructT P t places zero] {ps:List (Nat×Operand)}{vs:List (Nat×Value)}{r:List Value}
  (k:WQ P N ds ops w K os ((d,.agg r.toArray)::l)) (hw:U4 ops l ⟨some d,.build t ps.toArray,ty,pos,af,g⟩=some true:=by rfl) (hN:Nat.blt d N=true:=by rfl)
  (hx:evp l ps=some vs:=by rfl) (hr:bld places zero vs=some r:=by rfl)  :
  WQ P N ds ops w K (⟨some d,.build t ps.toArray,ty,pos,af,g⟩::os) l:=
 A0X rfl hw hN (fun w' hkq a ha=>by
  have e1:=ha.evp hx;obtain⟨fs,h1,h2,h3⟩:=StructT.out (P:=P) (t:=t);have h4:=run_underlying (P:=P) (w:=w') h1;have h5:=A6L (P:=P) w' _ _ h2;have h6:=A8V places vs zero r hr;simp only[bind_pure_comp]at h5;simp only[A2O]at h6;cases hi:P.info? t with
  |none=>simp[hi]at h3
  |some i=>
   simp only[hi,A1m]at h3;simp[execOp,Instr.build,e1,zeroValue,typeInfo,hi,h3,h4,A7O,h5,Value.cells,h6]) k
theorem B3A {ks:List FK} [FlatT P t ks] {xs ys:List Value} (k:WQ P N ds ops w K os ((d,.bool (!(A54 xs ys)))::l)) (hw:U4 ops l ⟨some d,.binOp .neq t x y t',ty,pos,af,g⟩=some true:=by rfl) (hN:Nat.blt d N=true:=by rfl)
  (hx:ev l x=some (.agg xs.toArray):=by rfl) (hy:ev l y=some (.agg ys.toArray):=by rfl) (h1:A7k ks xs=true:=by rfl) (h2:A7k ks ys=true:=by rfl)
   :WQ P N ds ops w K (⟨some d,.binOp .neq t x y t',ty,pos,af,g⟩::os) l:=
 A0X rfl hw hN (fun w' hkq c hc=>by
  obtain⟨fs,a1,a2,a3,a4⟩:=FlatT.out (P:=P) (t:=t);have hf:P.fieldsOf t=fs:=by simp[Program.fieldsOf,a1]
  have r1:=run_eqGuard_agg (P:=P) w' .neq t x y xs.toArray ys.toArray a4;have r2:=run_equalIn_agg (P:=P) w' 9999 t xs.toArray ys.toArray (by rw[hf];exact a1) a3;rw[hf,B7N xs ys _ _ 0 _ a2 h1 h2]at r2;simp only[execOp,hc.ev hx,hc.ev hy,Sem.run_bind,r1,Result.andThen_ok,run_neq_struct,r2,Sem.run_pure,A2o]) k
theorem O8 {p:Addr} (k:WQ P N ds ops w K os ((d,.pointer (some p))::l)) (hw:U4 ops l ⟨some d,.nilCheck x,ty,pos,af,g⟩=some true:=by rfl) (hN:Nat.blt d N=true:=by rfl)
  (hx:ev l x=some (.pointer (some p)):=by rfl)  :WQ P N ds ops w K (⟨some d,.nilCheck x,ty,pos,af,g⟩::os) l:=
 A0X rfl hw hN (fun w' hkq c hc=>by simp[execOp,hc.ev hx]) k
theorem B0W {c:Operand}{f:FuncId} [Own P f] {xs:List Operand}{tys:Array TypeId}{vs ca:List Value}{v:Value}
  (hw:U4 ops l ⟨some d,.call ⟨.value c,xs.toArray,tys⟩,ty,pos,af,g⟩=some true) (hN:Nat.blt d N=true)
  (hf:ev l c=some (.func (.func f) #[] ca.toArray)) (hx:evs l xs=some vs) (hc:∀w',Kept [] w w'->Cal P f (vs++ca).toArray w' (fun u w''=>u=v/\Kept [] w' w'')) (k:WQ P N ds ops w K os ((d,v)::l)):
  WQ P N ds ops w K (⟨some d,.call ⟨.value c,xs.toArray,tys⟩,ty,pos,af,g⟩::os) l:=
 B8k rfl hw hN (fun w' a ha=>by
  have:=ha.evs hx;simp[execOp,resolve,invoke,ha.ev hf,Deferred.ofValue,this,A2m]) hc k
end
section
variable {P:Program}{N:Nat}{ds:List Deferred}{Q:Exit->Act->World->Prop}{l l':Log}{w w':World}{ops:Array Oper}{os:List Oper}{o:Oper}
variable {d:Nat}{ty:TypeId}{pos:String}{af:Array Edge}{g:Option (Nat×Bool)}{t t':TypeId}{x y:Operand}
theorem B24 (sz:Nat):∀(vs:List (Nat×Value)) (k:Nat) (cs:List Value),vs.map (·.1)=List.range' k vs.length->cs.length=(k+vs.length) *sz->
  (∀p∈vs,p.2.cells.toList.length=sz)->Instr.fill (fun i=>some (i *sz,sz)) cs.toArray vs=some (cs.take (k *sz)++vs.flatMap (·.2.cells.toList)).toArray
 | [],k,cs,_,hl,_=>by
  simp only[Instr.fill,List.flatMap_nil,J3];rw[A0u (by simp only[List.length_nil,A1P]at hl;omega)]
 |(i,v)::vs,k,cs,hi,hl,hs=>by
  simp only[X8,F8,List.range'_succ,A27]at hi;obtain⟨rfl,hi⟩:=hi;have hv:v.cells.toList.length=sz:=hs (i,v) (by simp);have hv':v.cells.size=sz:=by simpa using hv
  have hl':cs.length=i *sz+sz+vs.length *sz:=by rw[hl];simp only[F8,A1Q,Nat.one_mul];omega
  rw[Instr.fill];simp only
  rw[if_neg (by simp[hv',hl'])];have e:(v.cells.zipIdx.foldl (fun cs (x:Value×Nat)=>cs.setIfInBounds (i *sz+x.2) x.1) cs.toArray)=(cs.take (i *sz)++(v.cells.toList++cs.drop (i *sz+sz))).toArray:=by
   apply A6w
   intro j;rw[<-Array.foldl_toList,Array.toList_zipIdx,B0H];simp only[A2O,List.size_toArray,A5q,A1P,hv'];by_cases h1:j<i *sz
   ·rw[if_neg (by omega),A3r (by simp;omega)]
    simp[h1]
   ·by_cases h2:j<i *sz+sz
    ·rw[if_pos (by omega),A19 (by simp;omega),A3r (by simp;omega)]
     congr 1
     simp;omega
    ·rw[if_neg (by omega),A19 (by simp;omega),A19 (by simp;omega),A14]
     congr 1
     simp;omega
  have ih:=B24 sz vs (i+1) (cs.take (i *sz)++(v.cells.toList++cs.drop (i *sz+sz))) hi (by simp[hv',hl',A1Q];omega) (fun p hp=>hs p (by simp[hp]));have e3:List.take ((i+1) *sz) (cs.take (i *sz)++(v.cells.toList++cs.drop (i *sz+sz)))=cs.take (i *sz)++v.cells.toList:=by
   rw[<-O3,A11 (by simp[hv',hl',A1Q];omega),A0u (by simp[hv',hl',A1Q];omega)]
  refine Eq.trans (congrArg (fun c=>Instr.fill _ c vs) e) (ih.trans ?_)
  rw[e3,O3]
  rfl
theorem A5E {e:TypeId}{sz by_ n:Nat} [TySlice P t e] [Elem P e sz by_] {ps:List (Nat×Operand)}{vs:List (Nat×Value)}
  (hw:U4 ops l ⟨some d,.buildSlice t n ps.toArray,ty,pos,af,g⟩=some true) (hN:Nat.blt d N=true) (hx:evp l ps=some vs)
  (hi:vs.map (·.1)=List.range' 0 n) (hs:vs.all (fun p=>Nat.beq p.2.cells.toList.length sz)=true) (hn:n *sz<=16777216)
  (k:∀b w',b=w.heap.size->w'.heap[b]?=some (.cells (vs.flatMap (·.2.cells.toList)).toArray e (0,0))->Kept [] w w'->WL P N ds ops Q os ((d,.slice (some ⟨b,0,none⟩) n n)::l) w'):
  WL P N ds ops Q (⟨some d,.buildSlice t n ps.toArray,ty,pos,af,g⟩::os) l w:=by
 obtain⟨i,z,hi',hz,hs',hby,hzc,hpos⟩:=Elem.out (P:=P) (e:=e);have h6:=fun w=>run_underlying (P:=P) (w:=w) (TySlice.out (P:=P) (t:=t))
 have hlen:vs.length=n:=by have:=congrArg List.length hi;simpa using this
 have hf:=B24 sz vs 0 ((List.range (n *sz)).map (fun j=>z.cells[j % z.cells.size]!)) (by rw[hlen];exact hi) (by simp[hlen]) (fun p hp=>by
  have:=A2Q.1 hs p hp;exact A3O this)
 simp only[A1n,Z9,P5]at hf;refine U6 (w':=w.alloc (.cells (vs.flatMap (·.2.cells.toList)).toArray e (0,0))) (v:=.slice (some ⟨w.heap.size,0,none⟩) n n) rfl hw hN (fun a ha=>?_) (k w.heap.size _ rfl (heap_alloc_new w _) (Kept.alloc w _))
 have e1:=ha.evp hx;have hz0:¬(2 ^ 24<n *sz):=by omega
 have e2:(Array.range (n *sz)).map (fun j=>z.cells[j % z.cells.size]!)=((List.range (n *sz)).map (fun j=>z.cells[j % z.cells.size]!)).toArray:=by
  apply Array.ext';simp
 simp only[execOp,Instr.buildSlice];by_cases hz1:n *sz=0
 ·have hn0:n=0:=by
   rcases Nat.mul_eq_zero.1 hz1 with h|h
   ·exact h
   ·omega
  subst hn0;have:vs= []:=A00 hlen;subst this;have e4:Array.range 0= #[]:=rfl;simp[e1,h6,sizeOf,typeInfo,hi',Instr.fill,newRow,newObj,e4]
  rfl
 ·simp[e1,h6,sizeOf,typeInfo,hi',hs',zeroValue,hz,hz0,newRow,newObj,e2,hf]
  rw[if_neg hz1]
  rfl
theorem B5I {b n e sz base:Nat}{r:List Value} (hb:w.heap[b]?=some (.cells r.toArray e (0,0))) (hl:r.length=n *sz) (hbase:base<=b) (hn:n<=9223372036854775807):
  w.ownsRow base e sz (.slice (some ⟨b,0,none⟩) n n) n r:=
 ⟨hl,.inr ⟨b,n,r.toArray,rfl,hbase,hb,G9 _,by unfold maxLen;exact hn,by simp[hl],by simp[<-hl]⟩⟩
theorem B3u {base e sz n:Nat}{v:Value}{xs:List Value} (h:w.ownsRow base e sz v n xs) (hn:0<n):
  ∃g cap cur,v=.slice (some ⟨g,0,none⟩) n cap/\base<=g/\w.heap[g]?=some (.cells cur e (0,0))/\n<=cap/\(∀(j:Nat) (u:Value),xs[j]?=some u->cur[j]?=some u)/\cur.size=cap *sz:=by
 rcases h.2 with ⟨_,h0⟩|⟨g,cap,cur,rfl,hb,hg,hc,_,hs,ht⟩
 ·omega
 ·refine⟨g,cap,cur,rfl,hb,hg,hc,fun j u hj=>?_,hs⟩
  rw[<-ht,A1L]at hj;split at hj
  ·simpa using hj
  ·cases hj
theorem A3D {base e sz n:Nat}{v:Value}{xs:List Value} (h:w.ownsRow base e sz v n xs):∃a cap,v=.slice a n cap:=by
 rcases h.2 with ⟨rfl,h0⟩|⟨g,cap,cur,rfl,_⟩
 ·exact⟨none,0,by rw[h0]⟩
 ·exact⟨_,_,rfl⟩
end
section
variable {P:Program}{ops:Array Oper}{md:Region.Mode}{C:World->Prop}
def vOp (P:Program) (ops:Array Oper) (i:Nat) (K:Act->World->Prop) (a:Act) (w:World):Prop:=
 match ops[i]? with
 |none=>K a w
 |some o=>if Region.wanted o (yielded ops a.tmps) then (∃u w',(execOp a.eval o).run P w=.ok (.value u) w'/\K (a.put o.dst u) w')\/
   (∃f args,(execOp a.eval o).run P w=.ok (.enter f args) w/\Calls P f args w (fun e w'=> ∃u,e=.returned u/\K (a.put o.dst u) w')) else K (a.put o.dst undef) w
theorem B8j {Q:Exit->Act->World->Prop}{i:Nat}{K:Act->World->Prop}{a:Act}{w:World} (h:vOp P ops i K a w):wpOp P ops Q i K a w:=by
 unfold vOp at h
 unfold wpOp
 cases ho:ops[i]? with
 |none=>simpa[ho] using h
 |some o=>
  simp only[ho]at h |-;split
  ·rename_i hw
   rw[if_pos hw]at h
   left
   rcases h with ⟨u,w',h1,h2⟩|⟨f,args,h1,h2⟩
   ·unfold Oper.wp
    rw[h1,Oper.upon_value];exact h2
   ·unfold Oper.wp
    rw[h1,Oper.upon_enter];exact Calls.mono h2 (fun e w' ⟨u,he,hk⟩=>by subst he;exact hk)
  ·rename_i hw
   rw[if_neg hw]at h;exact h
theorem B3P {i:Nat}{K K':Act->World->Prop}{a:Act}{w:World} (hk:∀a w,K a w->K' a w) (h:vOp P ops i K a w):vOp P ops i K' a w:=by
 unfold vOp at h |-
 cases ho:ops[i]? with
 |none=>simp only[ho]at h |-;exact hk _ _ h
 |some o=>
  simp only[ho]at h |-;split
  ·rename_i hw
   rw[if_pos hw]at h;rcases h with ⟨u,w',h1,h2⟩|⟨f,args,h1,h2⟩
   ·exact .inl ⟨u,w',h1,hk _ _ h2⟩
   ·exact .inr ⟨f,args,h1,Calls.mono h2 (fun e w' ⟨u,he,h⟩=>⟨u,he,hk _ _ h⟩)⟩
  ·rename_i hw
   rw[if_neg hw]at h;exact hk _ _ h
def A2i (P:Program) (ops:Array Oper) (C:World->Prop) (o:Oper) (v:Value) (a:Act):Prop:=
 (Region.wanted o (yielded ops a.tmps)=true/\∀w,C w->(execOp a.eval o).run P w=.ok (.value v) w)\/
 (Region.wanted o (yielded ops a.tmps)=false/\v=undef)
theorem A2i.vOp {i:Nat}{o:Oper}{v:Value}{a:Act}{w:World} (hi:ops[i]?=some o) (hy:A2i P ops C o v a) (hC:C w) {K:Act->World->Prop} (h:K (a.put o.dst v) w):vOp P ops i K a w:=by
 unfold Fw.vOp
 simp only[hi];rcases hy with ⟨hw,hv⟩|⟨hw,rfl⟩
 ·rw[if_pos hw];exact .inl ⟨v,w,hv w hC,h⟩
 ·rw[if_neg (by rw[hw];simp)];exact h
theorem C0H {j:Nat}{oi oj:Oper}{v:Value} (hj:ops[j]?=some oj) (hap:oi.apart ops oj=true)
  (hsi:∀cs b,oi.op≠ .select cs b) (hsj:∀cs b,oj.op≠ .select cs b) {K:Act->World->Prop}{a:Act}{w:World}
  (hy:A2i P ops C oi v a) (h:vOp P ops j K (a.put oi.dst v) w):
  vOp P ops j (fun a' w'=>A2i P ops C oi v a'/\K (a'.put oi.dst v) w') a w:=by
 obtain⟨h1,h2,h3⟩:=Oper.apart_spec hap;have keep:∀(a:Act),A2i P ops C oi v a->∀u,A2i P ops C oi v (a.put oj.dst u):=fun a hy u=>by
  unfold A2i at hy |-
  rw[execOp_put oi hsi a oj.dst u h3,wanted_put oi a oj.dst u h3];exact hy
 unfold vOp at *
 simp only[hj]at *;rw[wanted_put oj a oi.dst v h1]at h;split
 ·rename_i hw
  rw[if_pos hw]at h;rcases h with ⟨u,w',hu,hn⟩|⟨f,args,hu,hn⟩
  ·rw[execOp_put oj hsj a oi.dst v h1]at hu
   exact .inl ⟨u,w',hu,keep a hy u,by rw[<-Act.put_comm a v u h2];exact hn⟩
  ·rw[execOp_put oj hsj a oi.dst v h1]at hu
   exact .inr ⟨f,args,hu,Calls.mono hn (fun e w' ⟨u,he,h⟩=>⟨u,he,keep a hy u,by rw[<-Act.put_comm a v u h2];exact h⟩)⟩
 ·rename_i hw
  rw[if_neg hw]at h;exact⟨keep a hy _,by rw[<-Act.put_comm a v undef h2];exact h⟩
def A95 (P:Program) (md:Region.Mode) (ops:Array Oper) (C:World->Prop) (n:Nat) (L:Array Bool->Act->World->Prop):Nat->Array Bool->Act->World->Prop
 |0,listed,a,w=>L listed a w
 |f+1,listed,a,w=>Region.ready md ops listed≠ []/\∀i∈Region.ready md ops listed,i<n/\vOp P ops i (fun a' w'=>C w'/\A95 P md ops C n L f (listed.setIfInBounds i true) a' w') a w
theorem A8M {n g:Nat}{L:Array Bool->Act->World->Prop}{Q':Exit->Act->World->Prop} (hL:∀listed a w,L listed a w->wpAny P md ops Q' g listed a w):
  ∀(f:Nat) (listed:Array Bool) (a:Act) (w:World),A95 P md ops C n L f listed a w->wpAny P md ops Q' (f+g) listed a w
 |0,listed,a,w,h=>by rw[V6];exact hL _ _ _ h
 |f+1,listed,a,w,h=>by
  rw[show f+1+g=(f+g)+1 by omega];exact⟨fun h0=>absurd h0 h.1,fun i hi=>B8j (B3P (fun a' w' h'=>A8M hL f _ a' w' h'.2) (h.2 i hi).2)⟩
theorem B58 {n i:Nat}{oi:Oper}{v:Value}{L:Array Bool->Act->World->Prop} (hi:ops[i]?=some oi) (hsel:∀(j:Nat) (o:Oper) cs b,ops[j]?=some o->o.op≠ .select cs b)
  (hs:Region.sinkB md ops n=true) (hc:Region.chainB md ops n=true) (hn:n<ops.size) (hin:i<n)
  (hdone:∀listed a w,L listed a w->∀j∈Region.ready md ops listed,n<=j):
  ∀(f:Nat) (listed:Array Bool) (a:Act) (w:World),C w->HeadInv md ops n listed->
   (∀j oj,ops[j]?=some oj->j≠i->listed.getD j true=false->(∀e∈oj.after,Region.binds md e=true->e.on≠i)->oi.apart ops oj=true)->
   i∈Region.ready md ops listed->A2i P ops C oi v a->
   A95 P md ops C n L f (listed.setIfInBounds i true) (a.put oi.dst v) w->A95 P md ops C n L (f+1) listed a w:=by
 intro f;induction f with
 |zero=>
  intro listed a w hC inv _ hr hy H;have hun:=(mem_ready.1 hr).1;refine⟨fun h=>(by rw[h]at hr;cases hr),fun j hj=>?_⟩
  have hjn:j<n:=by
   rcases U0 j n with h|h
   ·exact h
   ·exact absurd hj (tail_waits hs hc hn inv _ i rfl hin hun j h)
  refine⟨hjn,?_⟩
  by_cases hji:j=i
  ·subst hji;exact hy.vOp hi hC ⟨hC,H⟩
  ·have:=hdone _ _ _ H j (ready_mono hj hji)
   omega
 |succ f ih=>
  intro listed a w hC inv hfree hr hy H;have hun:=(mem_ready.1 hr).1;refine⟨fun h=>(by rw[h]at hr;cases hr),fun j hj=>?_⟩
  have hjn:j<n:=by
   rcases U0 j n with h|h
   ·exact h
   ·exact absurd hj (tail_waits hs hc hn inv _ i rfl hin hun j h)
  refine⟨hjn,?_⟩
  by_cases hji:j=i
  ·subst hji;exact hy.vOp hi hC ⟨hC,H⟩
  ·have h1:=(H.2 j (ready_mono hj hji)).2
   obtain⟨hjun,oj,hoj,hall⟩:=mem_ready.1 hj;have hnot:∀e∈oj.after,Region.binds md e=true->e.on≠i:=fun e he hb heq=>by
    have h1:=hall e he hb;rw[heq,getD_both hun]at h1;cases h1
   have h2:=C0H hoj (hfree j oj hoj hji hjun hnot) (fun cs b=>hsel i oi cs b hi) (fun cs b=>hsel j oj cs b hoj) hy h1;have hfree':∀k ok,ops[k]?=some ok->k≠i->(listed.setIfInBounds j true).getD k true=false->
     (∀e∈ok.after,Region.binds md e=true->e.on≠i)->oi.apart ops ok=true:=fun k ok hk hki hun hno=>by
    refine hfree k ok hk hki ?_ hno
    by_cases hjk:j=k
    ·subst hjk;exact hjun
    ·rw[getD_set_ne true hjk]at hun;exact hun
   refine B3P (fun a' w' h3=>⟨h3.2.1,ih (listed.setIfInBounds j true) a' w' h3.2.1 (inv.set hj hjn) hfree' (ready_mono hr (Ne.symm hji)) h3.1 ?_⟩) h2
   rw[A7Q _ _ hji];exact h3.2.2
def A4h (P:Program) (ops:Array Oper) (C:World->Prop) (K:Act->World->Prop):List Oper->Act->World->Prop
 | [],a,w=>K a w
 |o::rest,a,w=>if Region.wanted o (yielded ops a.tmps) then (∃u w',(execOp a.eval o).run P w=.ok (.value u) w'/\C w'/\A4h P ops C K rest (a.put o.dst u) w')\/
   (∃f args,(execOp a.eval o).run P w=.ok (.enter f args) w/\Calls P f args w (fun e w'=> ∃u,e=.returned u/\C w'/\A4h P ops C K rest (a.put o.dst u) w')) else C w/\A4h P ops C K rest (a.put o.dst undef) w
def A61 (P:Program) (ops:Array Oper) (C:World->Prop) (K:Act->Prop):List Oper->Act->Prop
 | [],a=>K a
 |o::rest,a=> ∃v,A2i P ops C o v a/\A61 P ops C K rest (a.put o.dst v)
theorem B6z {n g:Nat}{Lq:Act->World->Prop}:∀(l:List Oper) (k:Nat) (listed:Array Bool) (a:Act) (w:World),(∀j,j<l.length->l[j]?=ops[k+j]?)->k+l.length=n->
  Region.seqB md ops (l.length+g) k listed=true->A4h P ops C Lq l a w->
  A95 P md ops C n (fun listed' a' w'=>Region.seqB md ops g n listed'=true/\Lq a' w') l.length listed a w
 | [],k,listed,a,w,_,hk,hB,h=>by
  have:k=n:=by simpa using hk
  subst this;exact⟨by simpa using hB,h⟩
 |o::l,k,listed,a,w,hl,hk,hB,h=>by
  have h0:ops[k]?=some o:=by simpa using (hl 0 (by simp)).symm
  rw[show (o::l).length+g=(l.length+g)+1 by simp only[F8];omega]at hB;simp only[Region.seqB,U9,decide_eq_true_eq]at hB;have hkn:k<n:=by simp only[F8]at hk;omega
  refine⟨fun h1=>(by rw[hB.1]at h1;cases h1),fun i hi=>?_⟩
  rw[hB.1]at hi;have hik:i=k:=by simpa using hi
  subst hik;refine⟨hkn,?_⟩
  have next:∀a' w',A4h P ops C Lq l a' w'->A95 P md ops C n (fun listed' a' w'=>Region.seqB md ops g n listed'=true/\Lq a' w') l.length (listed.setIfInBounds i true) a' w':=fun a' w' h'=>
   B6z l (i+1) _ a' w' (fun j hj=>by have:=hl (j+1) (by simp;omega);simpa[A3K,A3M 1 j] using this) (by simp only[F8]at hk;omega) hB.2 h'
  unfold vOp
  simp only[h0];unfold A4h at h
  split
  ·rename_i hw
   rw[if_pos hw]at h;rcases h with ⟨u,w',h1,h2,h3⟩|⟨f,args,h1,h2⟩
   ·exact .inl ⟨u,w',h1,h2,next _ _ h3⟩
   ·exact .inr ⟨f,args,h1,Calls.mono h2 (fun e w' ⟨u,he,hc,h⟩=>⟨u,he,hc,next _ _ h⟩)⟩
  ·rename_i hw
   rw[if_neg hw]at h;exact⟨h.1,next _ _ h.2⟩
theorem B6y {n q g:Nat}{Lq:Act->World->Prop}{lt:List Oper} (hsel:Region.noSelect ops=true) (hs:Region.sinkB md ops n=true) (hc:Region.chainB md ops n=true) (hn:n<ops.size) (hq:q+lt.length=n)
  (hlt:∀j,j<lt.length->lt[j]?=ops[q+j]?):
  ∀(l:List Oper) (k:Nat) (listed:Array Bool) (a:Act) (w:World),C w->(∀j,j<l.length->l[j]?=ops[k+j]?)->k+l.length=q->HeadInv md ops n listed->
  Region.lexHead md ops (lt.length+g) l.length k listed=true->A61 P ops C (fun a'=>A4h P ops C Lq lt a' w) l a->
  A95 P md ops C n (fun listed' a' w'=>Region.seqB md ops g n listed'=true/\Lq a' w') (l.length+lt.length) listed a w
 | [],k,listed,a,w,_,_,hk,_,hB,h=>by
  have:k=q:=by simpa using hk
  subst this;rw[List.length_nil,V6];exact B6z lt k listed a w hlt hq (by simpa[Region.lexHead] using hB) h
 |o::l,k,listed,a,w,hC,hl,hk,inv,hB,h=>by
  have h0:ops[k]?=some o:=by simpa using (hl 0 (by simp)).symm
  simp only[F8,Region.lexHead,U9]at hB;obtain⟨⟨hr,hf⟩,hB'⟩:=hB;have hkn:k<n:=by simp only[F8]at hk;omega
  have hr':k∈Region.ready md ops listed:=by simpa using hr
  obtain⟨v,hy,hK⟩:=h;rw[show (o::l).length+lt.length=(l.length+lt.length)+1 by simp only[F8];omega];exact B58 h0 (Region.noSelect_spec hsel) hs hc hn hkn (fun listed' a' w' hL=>seqB_ready hL.1) (l.length+lt.length) listed a w hC inv (Region.free_spec h0 hf) hr' hy
   (B6y hsel hs hc hn hq hlt l (k+1) _ _ w hC (fun j hj=>by have:=hl (j+1) (by simp;omega);simpa[A3K,A3M 1 j] using this) (by simp only[F8]at hk;omega) (inv.set hr' hkn) hB' hK)
def C0w (ops:Array Oper) (q n:Nat):Bool:=
 Region.noSelect ops && decide (n<ops.size) && decide (q<=n) && Region.sinkB .any ops n && Region.chainB .any ops n && Region.lexHead .any ops (ops.size-q) q 0 (Array.replicate ops.size false)
theorem B3U {id:Nat}{Q:Exit->Act->World->Prop}{a:Act}{w:World}{l:List Oper} (q n:Nat) (hm:P.follows .mixedOrders=true) (hB:C0w l.toArray q n=true)
  (hC:C { w with drawn:=w.drawn+1})
  (h:A61 P l.toArray C (fun a'=>A4h P l.toArray C (fun a' w'=>wpList P l.toArray Q (l.drop n) a' w') ((l.drop q).take (n-q)) a' { w with drawn:=w.drawn+1}) (l.take q) a):(Code.region id l.toArray true).wp P Q a w:=by
 simp only[C0w,U9,decide_eq_true_eq]at hB;obtain⟨⟨⟨⟨⟨hsel,hn⟩,hqn⟩,hs⟩,hc⟩,hlex⟩:=hB;have hn':n<l.length:=by simpa using hn
 have hql:(l.take q).length=q:=by simp;omega
 have htl:((l.drop q).take (n-q)).length=n-q:=by simp;omega
 have hdl:(l.drop n).length=l.toArray.size-n:=by simp
 have inv0:HeadInv .any l.toArray n (Array.replicate l.toArray.size false):=
  ⟨by simp,fun j oj _ hl=>(by rw[getD_replicate_false]at hl;cases hl),fun t _ ht=>getD_in (by simpa using ht) (getD_replicate_false _ _)⟩
 have H:=B6y (md:=.any) (q:=q) (g:=l.toArray.size-n) (lt:=(l.drop q).take (n-q)) hsel hs hc hn (by rw[htl];omega) (fun j hj=>by
  rw[htl]at hj;rw[A1L,if_pos hj,A14];simp) (l.take q) 0 _ a _ hC (fun j hj=>by
  have hj':j<q:=by rw[hql]at hj;exact hj
  simp[hj']) (by simpa using hql) inv0 (by rw[hql,htl,show n-q+(l.toArray.size-n)=l.toArray.size-q by omega];exact hlex) h
 refine wp_region_any hm ?_
 have:=A8M (Q':=Q) (g:=l.toArray.size-n) (fun listed a' w' hL=>by
  have:=wpAny_of_seq (md:=.any) (Q':=Q) (l.drop n) n listed a' w' (fun j=>by simp) (by rw[hdl];exact hL.1) hL.2
  rwa [hdl]at this) _ _ _ _ H
 rw[hql,htl,show q+(n-q)+(l.toArray.size-n)=l.toArray.size by omega]at this;exact this
end
section
variable {P:Program}{N:Nat}{ds:List Deferred}{X:List Nat}{K:Act->Prop}{Q:Exit->Act->World->Prop}{l l':Log}{w w' w0:World}{ops:Array Oper}{os os' tail:List Oper}{o:Oper}
structure WV (P:Program) (N:Nat) (ds:List Deferred) (ops:Array Oper) (X:List Nat) (w:World) (K:Act->Prop) (os:List Oper) (l:Log):Prop where
 run:∀a,Fits N ds l a->A61 P ops (fun w'=>Kept X w w') K os a
structure WS (P:Program) (N:Nat) (ds:List Deferred) (ops:Array Oper) (Q:Exit->Act->World->Prop) (X:List Nat) (w0:World) (os' tail:List Oper) (l:Log) (w:World):Prop where
 run:∀a,Fits N ds l a->A4h P ops (fun w'=>Kept X w0 w') (fun a' w'=>wpList P ops Q tail a' w') os' a w
theorem A1y {d:Nat}{v:Value} (hd:o.dst=some d) (hw:U4 ops l o=some true) (hN:Nat.blt d N=true)
  (hrun:∀w',Kept X w w'->∀a,Fits N ds l a->(execOp a.eval o).run P w'=.ok (.value v) w')
  (k:WV P N ds ops X w K os ((d,v)::l)):WV P N ds ops X w K (o::os) l:=
 ⟨fun a ha=>⟨v,.inl ⟨A23 ha hw,fun w' hw'=>hrun w' hw' a ha⟩,by rw[hd];exact k.run _ (ha.put hN v)⟩⟩
theorem C6e [Mixed P] {id:Nat} (q n:Nat) (X:List Nat) (hB:C0w os.toArray q n=true:=by kernel_rfl)
  (h:∀wd,Kept [] w wd->WV P N ds os.toArray X wd (fun a'=>A4h P os.toArray (fun w'=>Kept X wd w') (fun a' w'=>wpList P os.toArray Q (os.drop n) a' w') ((os.drop q).take (n-q)) a' wd) (os.take q) l):
  WC P N ds (.region id os.toArray true) Q l w:=
 ⟨fun a ha=>B3U (C:=fun w'=>Kept X { w with drawn:=w.drawn+1} w') q n Mixed.out hB (Kept.refl _ _) ((h _ (Kept.drew w)).run a ha)⟩
theorem A0b (h:WS P N ds ops Q X w os' tail l w):WV P N ds ops X w (fun a'=>A4h P ops (fun w'=>Kept X w w') (fun a' w'=>wpList P ops Q tail a' w') os' a' w) [] l:=⟨fun a ha=>h.run a ha⟩
theorem A0w (h:WL P N ds ops Q tail l w):WS P N ds ops Q X w0 [] tail l w:=⟨fun a ha=>h.run a ha⟩
theorem A3Z {d:Nat}{v:Value} (hd:o.dst=some d) (hw:U4 ops l o=some true) (hN:Nat.blt d N=true) (hrun:∀a,Fits N ds l a->(execOp a.eval o).run P w=.ok (.value v) w') (hC:Kept X w0 w')
  (k:WS P N ds ops Q X w0 os' tail ((d,v)::l) w'):WS P N ds ops Q X w0 (o::os') tail l w:=
 ⟨fun a ha=>by
  unfold A4h
  rw[A23 ha hw];exact .inl ⟨v,w',hrun a ha,hC,by rw[hd];exact k.run _ (ha.put hN v)⟩⟩
theorem B8l {d:Nat}{f:FuncId}{args:Array Value}{Post:Value->World->Prop} (hd:o.dst=some d) (hw:U4 ops l o=some true) (hN:Nat.blt d N=true)
  (hrun:∀a,Fits N ds l a->(execOp a.eval o).run P w=.ok (.enter f args) w) (hc:Cal P f args w Post)
  (k:∀v w',Post v w'->Kept X w0 w'/\WS P N ds ops Q X w0 os' tail ((d,v)::l) w'):WS P N ds ops Q X w0 (o::os') tail l w:=
 ⟨fun a ha=>by
  unfold A4h
  rw[A23 ha hw];refine .inr ⟨f,args,hrun a ha,Calls.mono hc.run (fun e w' q=>?_)⟩
  cases e with
  |returned v=>exact⟨v,rfl,(k v w' q).1,by rw[hd];exact(k v w' q).2.run _ (ha.put hN v)⟩
  |panicked c=>exact q.elim
  |outgrown=>exact q.elim⟩
variable {d:Nat}{ty:TypeId}{pos:String}{af:Array Edge}{g:Option (Nat×Bool)}{t t':TypeId}{x y:Operand}
end
end Go.Fw
