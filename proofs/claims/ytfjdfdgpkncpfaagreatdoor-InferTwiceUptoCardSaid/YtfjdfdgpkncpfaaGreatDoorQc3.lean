/- Own work: texts FwSemi, FwM, FwV, one behind the other. -/
import Derived.Test.YtfjdfdgpkncpfaaGreatDoorQc2
set_option maxHeartbeats 64000000
namespace Go.Fw
open Go
section
variable {P:Program}{ops:Array Oper}{md:Region.Mode}{C:World->Prop}
def vOp (P:Program) (ops:Array Oper) (i:Nat) (K:Act->World->Prop) (a:Act) (w:World):Prop:=
 match ops[i]? with
 |none=>K a w
 |some o=>if Region.wanted o (yielded ops a.tmps) then (∃u w',(execOp a.eval o).run P w=.ok (.value u) w'/\K (a.put o.dst u) w')\/
   (∃f args,(execOp a.eval o).run P w=.ok (.enter f args) w/\Calls P f args w (fun e w'=> ∃u,e=.returned u/\K (a.put o.dst u) w')) else K (a.put o.dst undef) w
theorem B2D {Q:Exit->Act->World->Prop}{i:Nat}{K:Act->World->Prop}{a:Act}{w:World} (h:vOp P ops i K a w):wpOp P ops Q i K a w:=by
 unfold vOp at h
 unfold wpOp
 cases ho:ops[i]? with
 |none=>simpa[ho] using h
 |some o=>
  simp only[ho]at h |-;split
  ·rename_i hw
   rw[if_pos hw]at h
   left
   rcases h with ⟨u,w',h1,h2⟩|⟨f,args,h1,h2⟩
   ·unfold Oper.wp
    rw[h1,Oper.upon_value];exact h2
   ·unfold Oper.wp
    rw[h1,Oper.upon_enter];exact Calls.mono h2 (fun e w' ⟨u,he,hk⟩=>by subst he;exact hk)
  ·rename_i hw
   rw[if_neg hw]at h;exact h
theorem B2z {i:Nat}{K K':Act->World->Prop}{a:Act}{w:World} (hk:∀a w,K a w->K' a w) (h:vOp P ops i K a w):vOp P ops i K' a w:=by
 unfold vOp at h |-
 cases ho:ops[i]? with
 |none=>simp only[ho]at h |-;exact hk _ _ h
 |some o=>
  simp only[ho]at h |-;split
  ·rename_i hw
   rw[if_pos hw]at h;rcases h with ⟨u,w',h1,h2⟩|⟨f,args,h1,h2⟩
   ·exact .inl ⟨u,w',h1,hk _ _ h2⟩
   ·exact .inr ⟨f,args,h1,Calls.mono h2 (fun e w' ⟨u,he,h⟩=>⟨u,he,hk _ _ h⟩)⟩
  ·rename_i hw
   rw[if_neg hw]at h;exact hk _ _ h
def A1W (P:Program) (ops:Array Oper) (C:World->Prop) (o:Oper) (v:Value) (a:Act):Prop:=
 (Region.wanted o (yielded ops a.tmps)=true/\∀w,C w->(execOp a.eval o).run P w=.ok (.value v) w)\/
 (Region.wanted o (yielded ops a.tmps)=false/\v=undef)
theorem A1W.vOp {i:Nat}{o:Oper}{v:Value}{a:Act}{w:World} (hi:ops[i]?=some o) (hy:A1W P ops C o v a) (hC:C w) {K:Act->World->Prop} (h:K (a.put o.dst v) w):vOp P ops i K a w:=by
 unfold Fw.vOp
 simp only[hi];rcases hy with ⟨hw,hv⟩|⟨hw,rfl⟩
 ·rw[if_pos hw];exact .inl ⟨v,w,hv w hC,h⟩
 ·rw[if_neg (by rw[hw];simp)];exact h
theorem B7D {j:Nat}{oi oj:Oper}{v:Value} (hj:ops[j]?=some oj) (hap:oi.apart ops oj=true)
  (hsi:∀cs b,oi.op≠ .select cs b) (hsj:∀cs b,oj.op≠ .select cs b) {K:Act->World->Prop}{a:Act}{w:World}
  (hy:A1W P ops C oi v a) (h:vOp P ops j K (a.put oi.dst v) w):
  vOp P ops j (fun a' w'=>A1W P ops C oi v a'/\K (a'.put oi.dst v) w') a w:=by
 obtain⟨h1,h2,h3⟩:=Oper.apart_spec hap;have keep:∀(a:Act),A1W P ops C oi v a->∀u,A1W P ops C oi v (a.put oj.dst u):=fun a hy u=>by
  unfold A1W at hy |-
  rw[execOp_put oi hsi a oj.dst u h3,wanted_put oi a oj.dst u h3];exact hy
 unfold vOp at *
 simp only[hj]at *;rw[wanted_put oj a oi.dst v h1]at h;split
 ·rename_i hw
  rw[if_pos hw]at h;rcases h with ⟨u,w',hu,hn⟩|⟨f,args,hu,hn⟩
  ·rw[execOp_put oj hsj a oi.dst v h1]at hu
   exact .inl ⟨u,w',hu,keep a hy u,by rw[<-Act.put_comm a v u h2];exact hn⟩
  ·rw[execOp_put oj hsj a oi.dst v h1]at hu
   exact .inr ⟨f,args,hu,Calls.mono hn (fun e w' ⟨u,he,h⟩=>⟨u,he,keep a hy u,by rw[<-Act.put_comm a v u h2];exact h⟩)⟩
 ·rename_i hw
  rw[if_neg hw]at h;exact⟨keep a hy _,by rw[<-Act.put_comm a v undef h2];exact h⟩
def A8s (P:Program) (md:Region.Mode) (ops:Array Oper) (C:World->Prop) (n:Nat) (L:Array Bool->Act->World->Prop):Nat->Array Bool->Act->World->Prop
 |0,listed,a,w=>L listed a w
 |f+1,listed,a,w=>Region.ready md ops listed≠ []/\∀i∈Region.ready md ops listed,i<n/\vOp P ops i (fun a' w'=>C w'/\A8s P md ops C n L f (listed.setIfInBounds i true) a' w') a w
theorem A7o {n g:Nat}{L:Array Bool->Act->World->Prop}{Q':Exit->Act->World->Prop} (hL:∀listed a w,L listed a w->wpAny P md ops Q' g listed a w):
  ∀(f:Nat) (listed:Array Bool) (a:Act) (w:World),A8s P md ops C n L f listed a w->wpAny P md ops Q' (f+g) listed a w
 |0,listed,a,w,h=>by rw[Y6];exact hL _ _ _ h
 |f+1,listed,a,w,h=>by
  rw[show f+1+g=(f+g)+1 by omega];exact⟨fun h0=>absurd h0 h.1,fun i hi=>B2D (B2z (fun a' w' h'=>A7o hL f _ a' w' h'.2) (h.2 i hi).2)⟩
theorem B02 {n i:Nat}{oi:Oper}{v:Value}{L:Array Bool->Act->World->Prop} (hi:ops[i]?=some oi) (hsel:∀(j:Nat) (o:Oper) cs b,ops[j]?=some o->o.op≠ .select cs b)
  (hs:Region.sinkB md ops n=true) (hc:Region.chainB md ops n=true) (hn:n<ops.size) (hin:i<n)
  (hdone:∀listed a w,L listed a w->∀j∈Region.ready md ops listed,n<=j):
  ∀(f:Nat) (listed:Array Bool) (a:Act) (w:World),C w->HeadInv md ops n listed->
   (∀j oj,ops[j]?=some oj->j≠i->listed.getD j true=false->(∀e∈oj.after,Region.binds md e=true->e.on≠i)->oi.apart ops oj=true)->
   i∈Region.ready md ops listed->A1W P ops C oi v a->
   A8s P md ops C n L f (listed.setIfInBounds i true) (a.put oi.dst v) w->A8s P md ops C n L (f+1) listed a w:=by
 intro f;induction f with
 |zero=>
  intro listed a w hC inv _ hr hy H;have hun:=(mem_ready.1 hr).1;refine⟨fun h=>(by rw[h]at hr;cases hr),fun j hj=>?_⟩
  have hjn:j<n:=by
   rcases X3 j n with h|h
   ·exact h
   ·exact absurd hj (tail_waits hs hc hn inv _ i rfl hin hun j h)
  refine⟨hjn,?_⟩
  by_cases hji:j=i
  ·subst hji;exact hy.vOp hi hC ⟨hC,H⟩
  ·have:=hdone _ _ _ H j (ready_mono hj hji)
   omega
 |succ f ih=>
  intro listed a w hC inv hfree hr hy H;have hun:=(mem_ready.1 hr).1;refine⟨fun h=>(by rw[h]at hr;cases hr),fun j hj=>?_⟩
  have hjn:j<n:=by
   rcases X3 j n with h|h
   ·exact h
   ·exact absurd hj (tail_waits hs hc hn inv _ i rfl hin hun j h)
  refine⟨hjn,?_⟩
  by_cases hji:j=i
  ·subst hji;exact hy.vOp hi hC ⟨hC,H⟩
  ·have h1:=(H.2 j (ready_mono hj hji)).2
   obtain⟨hjun,oj,hoj,hall⟩:=mem_ready.1 hj;have hnot:∀e∈oj.after,Region.binds md e=true->e.on≠i:=fun e he hb heq=>by
    have h1:=hall e he hb;rw[heq,getD_both hun]at h1;cases h1
   have h2:=B7D hoj (hfree j oj hoj hji hjun hnot) (fun cs b=>hsel i oi cs b hi) (fun cs b=>hsel j oj cs b hoj) hy h1;have hfree':∀k ok,ops[k]?=some ok->k≠i->(listed.setIfInBounds j true).getD k true=false->
     (∀e∈ok.after,Region.binds md e=true->e.on≠i)->oi.apart ops ok=true:=fun k ok hk hki hun hno=>by
    refine hfree k ok hk hki ?_ hno
    by_cases hjk:j=k
    ·subst hjk;exact hjun
    ·rw[getD_set_ne true hjk]at hun;exact hun
   refine B2z (fun a' w' h3=>⟨h3.2.1,ih (listed.setIfInBounds j true) a' w' h3.2.1 (inv.set hj hjn) hfree' (ready_mono hr (Ne.symm hji)) h3.1 ?_⟩) h2
   rw[A7c _ _ hji];exact h3.2.2
def A3C (P:Program) (ops:Array Oper) (C:World->Prop) (K:Act->World->Prop):List Oper->Act->World->Prop
 | [],a,w=>K a w
 |o::rest,a,w=>if Region.wanted o (yielded ops a.tmps) then (∃u w',(execOp a.eval o).run P w=.ok (.value u) w'/\C w'/\A3C P ops C K rest (a.put o.dst u) w')\/
   (∃f args,(execOp a.eval o).run P w=.ok (.enter f args) w/\Calls P f args w (fun e w'=> ∃u,e=.returned u/\C w'/\A3C P ops C K rest (a.put o.dst u) w')) else C w/\A3C P ops C K rest (a.put o.dst undef) w
def A6k (P:Program) (ops:Array Oper) (C:World->Prop) (K:Act->Prop):List Oper->Act->Prop
 | [],a=>K a
 |o::rest,a=> ∃v,A1W P ops C o v a/\A6k P ops C K rest (a.put o.dst v)
theorem B1k {n g:Nat}{Lq:Act->World->Prop}:∀(l:List Oper) (k:Nat) (listed:Array Bool) (a:Act) (w:World),(∀j,j<l.length->l[j]?=ops[k+j]?)->k+l.length=n->
  Region.seqB md ops (l.length+g) k listed=true->A3C P ops C Lq l a w->
  A8s P md ops C n (fun listed' a' w'=>Region.seqB md ops g n listed'=true/\Lq a' w') l.length listed a w
 | [],k,listed,a,w,_,hk,hB,h=>by
  have:k=n:=by simpa using hk
  subst this;exact⟨by simpa using hB,h⟩
 |o::l,k,listed,a,w,hl,hk,hB,h=>by
  have h0:ops[k]?=some o:=by simpa using (hl 0 (by simp)).symm
  rw[show (o::l).length+g=(l.length+g)+1 by simp only[X8];omega]at hB;simp only[Region.seqB,Q7,decide_eq_true_eq]at hB;have hkn:k<n:=by simp only[X8]at hk;omega
  refine⟨fun h1=>(by rw[hB.1]at h1;cases h1),fun i hi=>?_⟩
  rw[hB.1]at hi;have hik:i=k:=by simpa using hi
  subst hik;refine⟨hkn,?_⟩
  have next:∀a' w',A3C P ops C Lq l a' w'->A8s P md ops C n (fun listed' a' w'=>Region.seqB md ops g n listed'=true/\Lq a' w') l.length (listed.setIfInBounds i true) a' w':=fun a' w' h'=>
   B1k l (i+1) _ a' w' (fun j hj=>by have:=hl (j+1) (by simp;omega);simpa[A36,A14 1 j] using this) (by simp only[X8]at hk;omega) hB.2 h'
  unfold vOp
  simp only[h0];unfold A3C at h
  split
  ·rename_i hw
   rw[if_pos hw]at h;rcases h with ⟨u,w',h1,h2,h3⟩|⟨f,args,h1,h2⟩
   ·exact .inl ⟨u,w',h1,h2,next _ _ h3⟩
   ·exact .inr ⟨f,args,h1,Calls.mono h2 (fun e w' ⟨u,he,hc,h⟩=>⟨u,he,hc,next _ _ h⟩)⟩
  ·rename_i hw
   rw[if_neg hw]at h;exact⟨h.1,next _ _ h.2⟩
theorem B1j {n q g:Nat}{Lq:Act->World->Prop}{lt:List Oper} (hsel:Region.noSelect ops=true) (hs:Region.sinkB md ops n=true) (hc:Region.chainB md ops n=true) (hn:n<ops.size) (hq:q+lt.length=n)
  (hlt:∀j,j<lt.length->lt[j]?=ops[q+j]?):
  ∀(l:List Oper) (k:Nat) (listed:Array Bool) (a:Act) (w:World),C w->(∀j,j<l.length->l[j]?=ops[k+j]?)->k+l.length=q->HeadInv md ops n listed->
  Region.lexHead md ops (lt.length+g) l.length k listed=true->A6k P ops C (fun a'=>A3C P ops C Lq lt a' w) l a->
  A8s P md ops C n (fun listed' a' w'=>Region.seqB md ops g n listed'=true/\Lq a' w') (l.length+lt.length) listed a w
 | [],k,listed,a,w,_,_,hk,_,hB,h=>by
  have:k=q:=by simpa using hk
  subst this;rw[List.length_nil,Y6];exact B1k lt k listed a w hlt hq (by simpa[Region.lexHead] using hB) h
 |o::l,k,listed,a,w,hC,hl,hk,inv,hB,h=>by
  have h0:ops[k]?=some o:=by simpa using (hl 0 (by simp)).symm
  simp only[X8,Region.lexHead,Q7]at hB;obtain⟨⟨hr,hf⟩,hB'⟩:=hB;have hkn:k<n:=by simp only[X8]at hk;omega
  have hr':k∈Region.ready md ops listed:=by simpa using hr
  obtain⟨v,hy,hK⟩:=h;rw[show (o::l).length+lt.length=(l.length+lt.length)+1 by simp only[X8];omega];exact B02 h0 (Region.noSelect_spec hsel) hs hc hn hkn (fun listed' a' w' hL=>seqB_ready hL.1) (l.length+lt.length) listed a w hC inv (Region.free_spec h0 hf) hr' hy
   (B1j hsel hs hc hn hq hlt l (k+1) _ _ w hC (fun j hj=>by have:=hl (j+1) (by simp;omega);simpa[A36,A14 1 j] using this) (by simp only[X8]at hk;omega) (inv.set hr' hkn) hB' hK)
def B4j (ops:Array Oper) (q n:Nat):Bool:=
 Region.noSelect ops && decide (n<ops.size) && decide (q<=n) && Region.sinkB .any ops n && Region.chainB .any ops n && Region.lexHead .any ops (ops.size-q) q 0 (Array.replicate ops.size false)
theorem A9j {id:Nat}{Q:Exit->Act->World->Prop}{a:Act}{w:World}{l:List Oper} (q n:Nat) (hm:P.follows .mixedOrders=true) (hB:B4j l.toArray q n=true)
  (hC:C { w with drawn:=w.drawn+1})
  (h:A6k P l.toArray C (fun a'=>A3C P l.toArray C (fun a' w'=>wpList P l.toArray Q (l.drop n) a' w') ((l.drop q).take (n-q)) a' { w with drawn:=w.drawn+1}) (l.take q) a):(Code.region id l.toArray true).wp P Q a w:=by
 simp only[B4j,Q7,decide_eq_true_eq]at hB;obtain⟨⟨⟨⟨⟨hsel,hn⟩,hqn⟩,hs⟩,hc⟩,hlex⟩:=hB;have hn':n<l.length:=by simpa using hn
 have hql:(l.take q).length=q:=by simp;omega
 have htl:((l.drop q).take (n-q)).length=n-q:=by simp;omega
 have hdl:(l.drop n).length=l.toArray.size-n:=by simp
 have inv0:HeadInv .any l.toArray n (Array.replicate l.toArray.size false):=
  ⟨by simp,fun j oj _ hl=>(by rw[getD_replicate_false]at hl;cases hl),fun t _ ht=>getD_in (by simpa using ht) (getD_replicate_false _ _)⟩
 have H:=B1j (md:=.any) (q:=q) (g:=l.toArray.size-n) (lt:=(l.drop q).take (n-q)) hsel hs hc hn (by rw[htl];omega) (fun j hj=>by
  rw[htl]at hj;rw[A1H,if_pos hj,A1f];simp) (l.take q) 0 _ a _ hC (fun j hj=>by
  have hj':j<q:=by rw[hql]at hj;exact hj
  simp[hj']) (by simpa using hql) inv0 (by rw[hql,htl,show n-q+(l.toArray.size-n)=l.toArray.size-q by omega];exact hlex) h
 refine wp_region_any hm ?_
 have:=A7o (Q':=Q) (g:=l.toArray.size-n) (fun listed a' w' hL=>by
  have:=wpAny_of_seq (md:=.any) (Q':=Q) (l.drop n) n listed a' w' (fun j=>by simp[A1f]) (by rw[hdl];exact hL.1) hL.2
  rwa [hdl]at this) _ _ _ _ H
 rw[hql,htl,show q+(n-q)+(l.toArray.size-n)=l.toArray.size by omega]at this;exact this
end
section
variable {P:Program}{N:Nat}{ds:List Deferred}{X:List Nat}{K:Act->Prop}{Q:Exit->Act->World->Prop}{l l':Log}{w w' w0:World}{ops:Array Oper}{os os' tail:List Oper}{o:Oper}
structure WV (P:Program) (N:Nat) (ds:List Deferred) (ops:Array Oper) (X:List Nat) (w:World) (K:Act->Prop) (os:List Oper) (l:Log):Prop where
 run:∀a,Fits N ds l a->A6k P ops (fun w'=>Kept X w w') K os a
structure WS (P:Program) (N:Nat) (ds:List Deferred) (ops:Array Oper) (Q:Exit->Act->World->Prop) (X:List Nat) (w0:World) (os' tail:List Oper) (l:Log) (w:World):Prop where
 run:∀a,Fits N ds l a->A3C P ops (fun w'=>Kept X w0 w') (fun a' w'=>wpList P ops Q tail a' w') os' a w
theorem A0V {d:Nat}{v:Value} (hd:o.dst=some d) (hw:O8 ops l o=some true) (hN:Nat.blt d N=true)
  (hrun:∀w',Kept X w w'->∀a,Fits N ds l a->(execOp a.eval o).run P w'=.ok (.value v) w')
  (k:WV P N ds ops X w K os ((d,v)::l)):WV P N ds ops X w K (o::os) l:=
 ⟨fun a ha=>⟨v,.inl ⟨A2m ha hw,fun w' hw'=>hrun w' hw' a ha⟩,by rw[hd];exact k.run _ (ha.put hN v)⟩⟩
theorem B4x {d:Nat} (k:WV P N ds ops X w K os ((d,undef)::l)) (hd:o.dst=some d:=by rfl) (hw:O8 ops l o=some false:=by rfl) (hN:Nat.blt d N=true:=by rfl)
   :WV P N ds ops X w K (o::os) l:=
 ⟨fun a ha=>⟨undef,.inr ⟨A2m ha hw,rfl⟩,by rw[hd];exact k.run _ (ha.put hN _)⟩⟩
theorem B2G {j:Nat}{b:Bool}{c:Bool}{t:Nat} (h0:b=false->WV P N ds ops X w K (o::os) ((t,.bool false)::l)) (_hg:o.guard=some (j,c):=by rfl) (_ht:(ops[j]?).bind (·.dst)=some t:=by rfl) (hb:lk l t=some (.bool b):=by rfl)
  (h1:b=true->WV P N ds ops X w K (o::os) ((t,.bool true)::l))  :
  WV P N ds ops X w K (o::os) l:=by
 have key:∀c,b=c->WV P N ds ops X w K (o::os) ((t,.bool c)::l)->WV P N ds ops X w K (o::os) l:=fun c e h=>⟨fun a ha=>by
  subst e;refine h.run a ⟨ha.size,ha.defs,fun s v hv=>?_⟩
  simp only[lk]at hv;cases hs:Nat.beq s t with
  |true=>rw[hs]at hv;have:=A3m hs;subst this;simp at hv;subst hv;exact ha.vals _ _ hb
  |false=>rw[hs]at hv;exact ha.vals _ _ (by simpa using hv)⟩
 cases hb':b with
 |true=>exact key true hb' (h1 hb')
 |false=>exact key false hb' (h0 hb')
theorem B7F [Mixed P] {id:Nat} (q n:Nat) (X:List Nat) (hB:B4j os.toArray q n=true:=by kernel_rfl)
  (h:∀wd,Kept [] w wd->WV P N ds os.toArray X wd (fun a'=>A3C P os.toArray (fun w'=>Kept X wd w') (fun a' w'=>wpList P os.toArray Q (os.drop n) a' w') ((os.drop q).take (n-q)) a' wd) (os.take q) l):
  WC P N ds (.region id os.toArray true) Q l w:=
 ⟨fun a ha=>A9j (C:=fun w'=>Kept X { w with drawn:=w.drawn+1} w') q n Mixed.out hB (Kept.refl _ _) ((h _ (Kept.drew w)).run a ha)⟩
theorem A08 (h:WS P N ds ops Q X w os' tail l w):WV P N ds ops X w (fun a'=>A3C P ops (fun w'=>Kept X w w') (fun a' w'=>wpList P ops Q tail a' w') os' a' w) [] l:=⟨fun a ha=>h.run a ha⟩
theorem A1m (h:WL P N ds ops Q tail l w):WS P N ds ops Q X w0 [] tail l w:=⟨fun a ha=>h.run a ha⟩
theorem A5z {d:Nat}{v:Value} (hd:o.dst=some d) (hw:O8 ops l o=some true) (hN:Nat.blt d N=true) (hrun:∀a,Fits N ds l a->(execOp a.eval o).run P w=.ok (.value v) w') (hC:Kept X w0 w')
  (k:WS P N ds ops Q X w0 os' tail ((d,v)::l) w'):WS P N ds ops Q X w0 (o::os') tail l w:=
 ⟨fun a ha=>by
  unfold A3C
  rw[A2m ha hw];exact .inl ⟨v,w',hrun a ha,hC,by rw[hd];exact k.run _ (ha.put hN v)⟩⟩
theorem B2E {d:Nat}{f:FuncId}{args:Array Value}{Post:Value->World->Prop} (hd:o.dst=some d) (hw:O8 ops l o=some true) (hN:Nat.blt d N=true)
  (hrun:∀a,Fits N ds l a->(execOp a.eval o).run P w=.ok (.enter f args) w) (hc:Cal P f args w Post)
  (k:∀v w',Post v w'->Kept X w0 w'/\WS P N ds ops Q X w0 os' tail ((d,v)::l) w'):WS P N ds ops Q X w0 (o::os') tail l w:=
 ⟨fun a ha=>by
  unfold A3C
  rw[A2m ha hw];refine .inr ⟨f,args,hrun a ha,Calls.mono hc.run (fun e w' q=>?_)⟩
  cases e with
  |returned v=>exact⟨v,rfl,(k v w' q).1,by rw[hd];exact(k v w' q).2.run _ (ha.put hN v)⟩
  |panicked c=>exact q.elim
  |outgrown=>exact q.elim⟩
variable {d:Nat}{ty:TypeId}{pos:String}{af:Array Edge}{g:Option (Nat×Bool)}{t t':TypeId}{x y:Operand}
end
theorem F7 {α:Type}:(∀(x a:α) (l:List α),(x::l).set 0 a=a::l)/\(∀(x a:α) (l:List α) (n:Nat),(x::l).set (n+1) a=x::l.set n a)/\(∀(x:α) (l:List α) (n:Nat),(x::l).take (n+1)=x::l.take n)/\
  (∀l:List α,l.take 0= [])/\(∀(x:α) (l:List α) (n:Nat),(x::l).drop (n+1)=l.drop n)/\(∀l:List α,l.drop 0=l)/\(∀(x:α) (l r:List α),(x::l)++r=x::(l++r))/\(∀l:List α,[]++l=l):=
 ⟨fun _ _ _=>rfl,fun _ _ _ _=>rfl,fun _ _ _=>rfl,fun _=>rfl,fun _ _ _=>rfl,fun _=>rfl,fun _ _ _=>rfl,fun _=>rfl⟩
inductive HItem where
 |obj (b:Nat) (o:Obj)
 |row (v:Value) (ty:TypeId) (sz n:Nat) (xs:List Value)
abbrev HItem.cell (b:Nat) (c:List Value) (ty:TypeId):HItem:=.obj b (.cells c.toArray ty (0,0))
def HItem.ok (w:World):HItem->Prop
 | .obj b o=>w.heap[b]?=some o
 | .row v ty sz n xs=>w.ownsRow 0 ty sz v n xs
def HItem.blk:HItem->Option Nat
 | .obj b _=>some b
 | .row v _ _ _ _=>v.ownBlock
def A10 (H:List HItem):List Nat:=H.filterMap HItem.blk
structure Ent where
 w0:World
 X:List Nat
 I0:U0
structure Mem (E:Ent) (I:U0) (H:List HItem) (w:World):Prop where
 kept:Kept E.X E.w0 w
 le:Le E.I0 I
 inv:Inv I w
 ok:∀h∈H,h.ok w
 free:∀h∈H,∀b,h.blk=some b->I b=none
 born:∀h∈H,∀b,h.blk=some b->b∈E.X\/E.w0.heap.size<=b
 dist:H.Pairwise (fun h k=> ∀b,h.blk=some b->k.blk≠some b)
 grow:∀b o,I b=some o->E.I0 b=some o\/b∈E.X\/E.w0.heap.size<=b
theorem B4e {w:World}{base ty sz n g:Nat}{v:Value}{xs:List Value} (h:w.ownsRow base ty sz v n xs) (hg:v.ownBlock=some g):∃c,w.heap[g]?=some (.cells c ty (0,0)):=by
 rcases h.2 with ⟨rfl,_⟩|⟨g',cap,cur,rfl,hb,hh,_⟩
 ·cases hg
 ·simp only[Value.ownBlock,U5]at hg
  subst hg;exact⟨cur,hh⟩
theorem HItem.ok.lt {w:World}{h:HItem} (ho:h.ok w) {b:Nat} (hb:h.blk=some b):b<w.heap.size:=by
 cases h with
 |obj b' o=>
  simp only[HItem.blk,U5]at hb;subst hb;exact A2U ho
 |row v ty sz n xs=>
  obtain⟨c,hc⟩:=B4e ho hb;exact A2U hc
theorem HItem.ok.kept {w w':World}{X:List Nat}{h:HItem} (ho:h.ok w) (k:Kept X w w') (hx:∀b,h.blk=some b->b∉X):h.ok w':=by
 cases h with
 |obj b o=>exact k.get ho (hx b rfl)
 |row v ty sz n xs=>exact k.own ho hx
theorem A6u {H:List HItem}{b:Nat} (h:b∈A10 H):∃x∈H,x.blk=some b:=by
 simpa[A10,A5P] using h
section
variable {E:Ent}{I I':U0}{H H' R:List HItem}{w w':World}
theorem Mem.start (hI:Inv I w):Mem ⟨w,[],I⟩ I [] w:=
 ⟨Kept.refl _ _,Le.refl _,hI,fun _ h=>(by cases h),fun _ h=>(by cases h),fun _ h=>(by cases h),.nil,fun _ _ h=> .inl h⟩
theorem Mem.dist' (hm:Mem E I H w) {i j:Nat}{h k:HItem} (hi:H[i]?=some h) (hj:H[j]?=some k) {b:Nat} (hb:h.blk=some b) (hk:k.blk=some b):i=j:=by
 obtain⟨hi1,hi2⟩:=Z8.1 hi;obtain⟨hj1,hj2⟩:=Z8.1 hj;rcases Nat.lt_trichotomy i j with h1|h1|h1
 ·have:=A2u.1 hm.dist i j hi1 hj1 h1 b (by rw[hi2];exact hb)
  rw[hj2]at this;exact absurd hk this
 ·exact h1
 ·have:=A2u.1 hm.dist j i hj1 hi1 h1 b (by rw[hj2];exact hk)
  rw[hi2]at this;exact absurd hb this
theorem Mem.keptX (hm:Mem E I H w) {X:List Nat} (k:Kept X w w') (hX:∀x∈X,x∈E.X\/E.w0.heap.size<=x) (hI:∀x∈X,I x=none) (hH:∀h∈H,∀b,h.blk=some b->b∉X):Mem E I H w':=
 ⟨hm.kept.step k hX,hm.le,hm.inv.kept k hI,fun h hh=>(hm.ok h hh).kept k (hH h hh),hm.free,hm.born,hm.dist,hm.grow⟩
theorem Mem.kept0 (hm:Mem E I H w) (k:Kept [] w w'):Mem E I H w':=
 hm.keptX k (fun _ h=>by cases h) (fun _ h=>by cases h) (fun _ _ _ _ h=>by cases h)
theorem Mem.get (hm:Mem E I H w) {i b:Nat}{o:Obj} (h:H[i]?=some (.obj b o)):w.heap[b]?=some o:=hm.ok _ (A0s h)
theorem Mem.getRow (hm:Mem E I H w) {i ty sz n:Nat}{v:Value}{xs:List Value} (h:H[i]?=some (.row v ty sz n xs)):w.ownsRow 0 ty sz v n xs:=hm.ok _ (A0s h)
theorem Mem.add (hm:Mem E I H w) {x:HItem} (k:Kept [] w w') (ho:x.ok w') (hf:∀b,x.blk=some b->w.heap.size<=b):Mem E I (x::H) w':=by
 have hs:=hm.kept.size;refine⟨hm.kept.step0 k,hm.le,hm.inv.kept0 k,fun h hh=>?_,fun h hh b hb=>?_,fun h hh b hb=>?_,.cons (fun h hh b hb hc=>?_) hm.dist,hm.grow⟩
 ·rcases A0D.1 hh with rfl|hh
  ·exact ho
  ·exact(hm.ok h hh).kept k (by simp)
 ·rcases A0D.1 hh with rfl|hh
  ·exact hm.inv.fresh (hf b hb)
  ·exact hm.free h hh b hb
 ·rcases A0D.1 hh with rfl|hh
  ·exact .inr (A1v hs (hf b hb))
  ·exact hm.born h hh b hb
 ·have h1:=hf b hb
  have h2:=(hm.ok h hh).lt hc;omega
theorem Mem.nil (hm:Mem E I H w) (ty:TypeId) (sz:Nat):Mem E I (.row (.slice none 0 0) ty sz 0 []::H) w:=
 hm.add (Kept.refl _ _) (World.ownsRow_nil w _ _ _) (fun _ h=>by cases h)
theorem Mem.perm (hm:Mem E I H w) (h:H.Perm H'):Mem E I H' w:=
 ⟨hm.kept,hm.le,hm.inv,fun x hx=>hm.ok x (h.mem_iff.2 hx),fun x hx=>hm.free x (h.mem_iff.2 hx),fun x hx=>hm.born x (h.mem_iff.2 hx),
  (h.pairwise_iff (fun {_ _} hxy b hb hc=>hxy b hc hb)).1 hm.dist,hm.grow⟩
theorem Mem.right (hm:Mem E I (H++R) w):Mem E I R w:=
 ⟨hm.kept,hm.le,hm.inv,fun x hx=>hm.ok x (A1E _ hx),fun x hx=>hm.free x (A1E _ hx),fun x hx=>hm.born x (A1E _ hx),
  (A17.1 hm.dist).2.1,hm.grow⟩
theorem Mem.left (hm:Mem E I (H++R) w):Mem E I H w:=
 ⟨hm.kept,hm.le,hm.inv,fun x hx=>hm.ok x (A1p _ hx),fun x hx=>hm.free x (A1p _ hx),fun x hx=>hm.born x (A1p _ hx),
  (A17.1 hm.dist).1,hm.grow⟩
theorem Mem.tl {x:HItem} (hm:Mem E I (x::H) w):Mem E I H w:=Mem.right (H:= [x]) hm
theorem Mem.hd {x:HItem} (hm:Mem E I (x::H) w):Mem E I [x] w:=Mem.left (H:= [x]) (R:=H) hm
theorem Mem.snd {x y:HItem} (hm:Mem E I (x::y::H) w):Mem E I (x::H) w:=(hm.perm (.swap _ _ _)).tl
theorem Mem.swap {x y:HItem} (hm:Mem E I (x::y::H) w):Mem E I (y::x::H) w:=hm.perm (.swap _ _ _)
theorem Mem.turn (hm:Mem E I H w) {i:Nat}{h h':HItem} (hi:H[i]?=some h) (k:Kept h.blk.toList w w') (ho:h'.ok w')
  (hb:h'.blk=h.blk\/∃g,h'.blk=some g/\w.heap.size<=g):Mem E I (H.set i h') w':=by
 have hs:=hm.kept.size;have hmem:h∈H:=A0s hi;have hX:∀x∈h.blk.toList,h.blk=some x:=fun x hx=>by simpa[Option.mem_toList] using hx
 have hset:∀x∈H.set i h',x=h'\/∃j,j≠i/\H[j]?=some x:=fun x hx=>by
  obtain⟨j,hj⟩:=A5K.1 hx;rw[A2w]at hj;by_cases e:i=j
  ·rw[if_pos e]at hj
   split at hj
   ·simp only[U5]at hj;exact .inl hj.symm
   ·cases hj
  ·rw[if_neg e]at hj;exact .inr ⟨j,fun e'=>e e'.symm,hj⟩
 have hother:∀j x,j≠i->H[j]?=some x->∀b,x.blk=some b->b∉h.blk.toList:=fun j x hj hx b hb hm'=>hj (hm.dist' hx hi hb (hX b hm'))
 refine⟨hm.kept.step k (fun x hx=>hm.born h hmem x (hX x hx)),hm.le,hm.inv.kept k (fun x hx=>hm.free h hmem x (hX x hx)),fun x hx=>?_,fun x hx b hb'=>?_,fun x hx b hb'=>?_,?_,hm.grow⟩
 ·rcases hset x hx with rfl|⟨j,hj,hx⟩
  ·exact ho
  ·exact(hm.ok x (A0s hx)).kept k (hother j x hj hx)
 ·rcases hset x hx with rfl|⟨j,hj,hx⟩
  ·rcases hb with hb|⟨g,hg,hge⟩
   ·exact hm.free h hmem b (hb ▸ hb')
   ·rw[hg]at hb';injection hb' with hb';subst hb';exact hm.inv.fresh hge
  ·exact hm.free x (A0s hx) b hb'
 ·rcases hset x hx with rfl|⟨j,hj,hx⟩
  ·rcases hb with hb|⟨g,hg,hge⟩
   ·exact hm.born h hmem b (hb ▸ hb')
   ·rw[hg]at hb';injection hb' with hb';subst hb';exact .inr (A1v hs hge)
  ·exact hm.born x (A0s hx) b hb'
 ·refine A2u.2 (fun j k hj hk hjk b h1 h2=>?_)
  have g1:(H.set i h')[j]?=some (H.set i h')[j]:=G9 hj;have g2:(H.set i h')[k]?=some (H.set i h')[k]:=G9 hk;generalize (H.set i h')[j]=x at g1 h1;generalize (H.set i h')[k]=y at g2 h2;have hil:i<H.length:=(Z8.1 hi).1;rw[A2w]at g1 g2;have key:∀m z,m≠i->H[m]?=some z->z.blk=some b->h'.blk=some b->False:=fun m z hmi hz hzb hb'=>by
   rcases hb with hb|⟨g,hg,hge⟩
   ·exact hmi (hm.dist' hz hi hzb (hb ▸ hb'))
   ·rw[hg]at hb';injection hb' with hb';subst hb'
    have:=(hm.ok z (A0s hz)).lt hzb;omega
  by_cases e1:i=j
  ·rw[if_pos e1,if_pos hil]at g1
   rw[if_neg (by omega)]at g2;injection g1 with g1;subst g1
   exact key k y (by omega) g2 h2 h1
  ·rw[if_neg e1]at g1
   by_cases e2:i=k
   ·rw[if_pos e2,if_pos hil]at g2
    injection g2 with g2;subst g2
    exact key j x (by omega) g1 h1 h2
   ·rw[if_neg e2]at g2
    have:=hm.dist' g1 g2 h1 h2;omega
structure RowI (I:U0) (ty:TypeId) (sz:Nat) (v:Value) (n:Nat) (xs:List Value):Prop where
 len:xs.length=n *sz
 out:∃a cap,v=.slice a n cap/\n<=cap/\(0<n->∃b off c,∃fr:TypeId×(Nat×Nat),a=some ⟨b,off,none⟩/\I b=some (.cells c fr.1 fr.2)/\∀(j:Nat) (u:Value),xs[j]?=some u->c[off+j]?=some u)
structure PtrI (I:U0) (b off:Nat) (ty:TypeId) (cs:List Value):Prop where
 out:∃c,∃fr:TypeId×(Nat×Nat),I b=some (.cells c fr.1 fr.2)/\∀(j:Nat) (u:Value),cs[j]?=some u->c[off+j]?=some u
theorem RowI.le {ty sz n:Nat}{v:Value}{xs:List Value} (h:RowI I ty sz v n xs) (hl:Le I I'):RowI I' ty sz v n xs:=by
 obtain⟨h0,a,cap,h1,h2,h3⟩:=h;exact⟨h0,a,cap,h1,h2,fun hn=>let ⟨b,off,c,fr,e1,e2,e3⟩:=h3 hn;⟨b,off,c,fr,e1,hl _ _ e2,e3⟩⟩
theorem PtrI.le {b off ty:Nat}{cs:List Value} (h:PtrI I b off ty cs) (hl:Le I I'):PtrI I' b off ty cs:=by
 obtain⟨c,fr,h1,h2⟩:=h;exact⟨c,fr,hl _ _ h1,h2⟩
theorem RowI.val {ty sz n:Nat}{v:Value}{xs:List Value} (h:RowI I ty sz v n xs):∃a cap,v=.slice a n cap:=let ⟨_,a,cap,h1,_⟩:=h;⟨a,cap,h1⟩
theorem A1K (I:U0) (ty:TypeId) (sz cap:Nat) (a:Option Addr):RowI I ty sz (.slice a 0 cap) 0 []:=⟨by simp,a,cap,rfl,J7 _,fun h=>by omega⟩
theorem RowI.reads {ty sz n:Nat}{v:Value}{xs:List Value} (h:RowI I ty sz v n xs) (hI:Inv I w):Reads w sz v n xs:=by
 obtain⟨h0,a,cap,h1,h2,h3⟩:=h;exact⟨h0,a,cap,h1,h2,fun hn=>let ⟨b,off,c,fr,e1,e2,e3⟩:=h3 hn;⟨b,off,c,fr.1,fr.2,e1,hI _ _ e2,e3⟩⟩
theorem RowI.at_ {ty sz n cap:Nat}{a:Option Addr}{xs:List Value} (h:RowI I ty sz (.slice a n cap) n xs) (i:Nat) (hi:i<n):
  ∃b off,a=some ⟨b,off,none⟩/\PtrI I b (off+i *sz) ty ((xs.drop (i *sz)).take sz):=by
 obtain⟨h0,a',cap',h1,h2,h3⟩:=h;injection h1 with e1 _ e3
 subst e1;subst e3;obtain⟨b,off,c,fr,e1,e2,e3⟩:=h3 (by omega);refine⟨b,off,e1,c,fr,e2,fun j u hj=>?_⟩
 rw[A1H]at hj;split at hj
 ·rw[A1f]at hj
  rw[A36];exact e3 _ _ hj
 ·cases hj
theorem A9K {α:Type} (enc:α->List Value) (sz:Nat) (he:∀a,(enc a).length=sz):∀(l:List α) (i:Nat) (a:α),l[i]?=some a->(((l.flatMap enc).drop (i *sz)).take sz)=enc a
 | [],i,a,h=>by simp at h
 |x::l,0,a,h=>by
  simp only[A0S,U5]at h;subst h;rw[A0n,A09,A2a,A4x (by rw[he];omega),A1D (by rw[he];omega)]
 |x::l,i+1,a,h=>by
  rw[A0E]at h;rw[A0n,A5V,A5J (by rw[he,A1j];omega),Y5,he,show (i+1) *sz-sz=i *sz by rw[A1j];omega];exact A9K enc sz he l i a h
theorem RowI.flat {α:Type}{enc:α->List Value}{ty sz n cap:Nat}{a:Option Addr}{l:List α} (h:RowI I ty sz (.slice a n cap) n (l.flatMap enc)) (he:∀a,(enc a).length=sz) {i:Nat}{x:α} (hi:l[i]?=some x) (hn:i<n):
  ∃b off,a=some ⟨b,off,none⟩/\PtrI I b (off+i *sz) ty (enc x):=by
 have:=h.at_ i hn
 rwa [A9K enc sz he l i x hi]at this
theorem A6z {base ty sz n:Nat}{v:Value}{xs:List Value} (h:w.ownsRow base ty sz v n xs) (hG:∀g o,v.ownBlock=some g->w.heap[g]?=some o->I g=some o):RowI I ty sz v n xs:=by
 refine⟨h.1,?_⟩
 rcases h.2 with ⟨rfl,h0⟩|⟨g,cap,cur,rfl,hb,hg,hc,_,hs,ht⟩
 ·exact⟨none,0,by rw[h0],by omega,fun h=>by omega⟩
 ·refine⟨_,cap,rfl,hc,fun _=>⟨g,0,cur,(ty,(0,0)),rfl,hG g _ rfl hg,fun j u hj=>?_⟩⟩
  rw[<-ht,A1H]at hj;split at hj
  ·rw[Y6];simpa using hj
  ·cases hj
theorem Mem.freezeB (hm:Mem E I H w) {b:Nat}{o:Obj} (hb:w.heap[b]?=some o) (hf:I b=none) (hn:b∈E.X\/E.w0.heap.size<=b) (hd:∀h∈H,h.blk≠some b):Mem E (I.add b o) H w:=
 ⟨hm.kept,hm.le.trans (Le.add hf),hm.inv.add hb,hm.ok,fun h hh k hk=>(by
  have hne:k≠b:=fun e=>hd h hh (by rw[<-e];exact hk)
  unfold U0.add
  rw[if_neg hne];exact hm.free h hh k hk),hm.born,hm.dist,fun k u hk=>(by
  unfold U0.add at hk
  split at hk
  ·rename_i e;subst e;exact .inr hn
  ·exact hm.grow k u hk)⟩
theorem Mem.freeze {ty sz n:Nat}{v:Value}{xs:List Value} (hm:Mem E I (.row v ty sz n xs::H) w):∃I',Le I I'/\Mem E I' H w/\RowI I' ty sz v n xs:=by
 have ho:=hm.ok _ Y1;cases hv:v.ownBlock with
 |none=>exact⟨I,Le.refl _,hm.tl,A6z ho (fun g o h=>by rw[hv]at h;cases h)⟩
 |some g=>
  obtain⟨c,hc⟩:=B4e ho hv;have hf:=hm.free _ Y1 g hv;refine⟨I.add g (.cells c ty (0,0)),Le.add hf,hm.tl.freezeB hc hf (hm.born _ Y1 g hv) (fun h hh e=>(A3o.1 hm.dist).1 h hh g hv e),A6z ho (fun g' o h h'=>?_)⟩
  rw[hv]at h;injection h with h;subst h
  rw[hc]at h';injection h' with h';subst h'
  exact U0.add_self _ _ _
theorem Mem.freezeO {b ty:Nat}{c:Array Value}{fr:Nat×Nat} (hm:Mem E I (.obj b (.cells c ty fr)::H) w):∃I',Le I I'/\Mem E I' H w/\PtrI I' b 0 ty c.toList:=by
 have hf:=hm.free _ Y1 b rfl;refine⟨I.add b (.cells c ty fr),Le.add hf,hm.tl.freezeB (hm.ok _ Y1) hf (hm.born _ Y1 b rfl) (fun h hh e=>(A3o.1 hm.dist).1 h hh b rfl e),c,(ty,fr),U0.add_self _ _ _,fun j u hj=>?_⟩
 rw[Y6];simpa using hj
theorem Mem.openRow {ty sz n:Nat}{v:Value}{xs:List Value} (hm:Mem E I (.row v ty sz n xs::H) w) (hn:0<n):
  ∃g cap cur,v=.slice (some ⟨g,0,none⟩) n cap/\Mem E I (.obj g (.cells cur ty (0,0))::H) w/\n<=cap/\cap<=maxLen/\cur.size=cap *sz/\cur.toList.take (n *sz)=xs:=by
 have ho:=hm.ok _ Y1;rcases ho.2 with ⟨_,h0⟩|⟨g,cap,cur,rfl,_,hg,hc,hcm,hs,ht⟩
 ·omega
 ·refine⟨g,cap,cur,rfl,?_,hc,hcm,hs,ht⟩
  exact⟨hm.kept,hm.le,hm.inv,fun h hh=>by
    rcases A0D.1 hh with rfl|hh
    ·exact hg
    ·exact hm.tl.ok h hh,fun h hh b hb=>by
    rcases A0D.1 hh with rfl|hh
    ·exact hm.free _ Y1 b hb
    ·exact hm.tl.free h hh b hb,fun h hh b hb=>by
    rcases A0D.1 hh with rfl|hh
    ·exact hm.born _ Y1 b hb
    ·exact hm.tl.born h hh b hb,.cons (fun h hh b hb=>(A3o.1 hm.dist).1 h hh b hb) hm.tl.dist,hm.grow⟩
theorem Mem.shutRow {ty sz n g cap:Nat}{cur:Array Value}{xs:List Value} (hm:Mem E I (.obj g (.cells cur ty (0,0))::H) w) (hc:n<=cap) (hcm:cap<=maxLen) (hs:cur.size=cap *sz) (ht:cur.toList.take (n *sz)=xs):
  Mem E I (.row (.slice (some ⟨g,0,none⟩) n cap) ty sz n xs::H) w:=
 ⟨hm.kept,hm.le,hm.inv,fun h hh=>by
    rcases A0D.1 hh with rfl|hh
    ·refine⟨?_,.inr ⟨g,cap,cur,rfl,J7 _,hm.ok _ Y1,hc,hcm,hs,ht⟩⟩
     rw[<-ht,Y9,A3M,hs];exact A19 (A3K _ hc)
    ·exact hm.tl.ok h hh,fun h hh b hb=>by
    rcases A0D.1 hh with rfl|hh
    ·exact hm.free _ Y1 b hb
    ·exact hm.tl.free h hh b hb,fun h hh b hb=>by
    rcases A0D.1 hh with rfl|hh
    ·exact hm.born _ Y1 b hb
    ·exact hm.tl.born h hh b hb,.cons (fun h hh b hb=>(A3o.1 hm.dist).1 h hh b hb) hm.tl.dist,hm.grow⟩
end
structure CalM (P:Program) (f:FuncId) (args:Array Value) (I:U0) (H:List HItem) (Post:Value->U0->List HItem->Prop):Prop where
 run:∀w,Mem ⟨w,A10 H,I⟩ I H w->Cal P f args w (fun v w'=> ∃I' H',Post v I' H'/\Mem ⟨w,A10 H,I⟩ I' H' w')
theorem CalM.mono {P:Program}{f:FuncId}{args:Array Value}{I:U0}{H:List HItem}{Post Post':Value->U0->List HItem->Prop} (h:CalM P f args I H Post) (hp:∀v I' H',Le I I'->Post v I' H'->Post' v I' H'):CalM P f args I H Post':=
 ⟨fun w hm=>(h.run w hm).mono (fun _ _ ⟨I',H',h1,h2⟩=>⟨I',H',hp _ _ _ h2.le h1,h2⟩)⟩
section
variable {P:Program}{N:Nat}{ds:List Deferred}{Q:Exit->Act->World->Prop}{l l':Log}{w w':World}{ops:Array Oper}{os:List Oper}{o:Oper}
variable {d:Nat}{ty:TypeId}{pos:String}{af:Array Edge}{g:Option (Nat×Bool)}{t t':TypeId}{x y:Operand}
variable {E:Ent}{I I':U0}{H H' R:List HItem}
theorem Mem.back (hm:Mem E I (H++R) w) (hc:Mem ⟨w,A10 H,I⟩ I' H' w'):Mem E I' (H'++R) w':=by
 have hs:=hm.kept.size;have hbl:∀x∈A10 H,x∈E.X\/E.w0.heap.size<=x:=fun x hx=>by
  obtain⟨h,hh,hb⟩:=A6u hx;exact hm.born h (A1p _ hh) x hb
 have hR:∀h∈R,∀b,h.blk=some b->b∉A10 H:=fun h hh b hb hx=>by
  obtain⟨k,hk,hkb⟩:=A6u hx;exact(A17.1 hm.dist).2.2 k hk h hh b hkb hb
 have hRl:∀h∈R,∀b,h.blk=some b->b<w.heap.size:=fun h hh b hb=>(hm.ok h (A1E _ hh)).lt hb
 refine⟨hm.kept.step hc.kept hbl,hm.le.trans hc.le,hc.inv,fun h hh=>?_,fun h hh b hb=>?_,fun h hh b hb=>?_,A17.2 ⟨hc.dist,(A17.1 hm.dist).2.1,fun h hh k hk b hb hkb=>?_⟩,fun b o hb=>?_⟩
 ·rcases A0T.1 hh with hh|hh
  ·exact hc.ok h hh
  ·exact(hm.ok h (A1E _ hh)).kept hc.kept (hR h hh)
 ·rcases A0T.1 hh with hh|hh
  ·exact hc.free h hh b hb
  ·cases hi:I' b with
   |none=>rfl
   |some o=>
    have h1:=hR h hh b hb;have h2:=hRl h hh b hb;have h3:=hm.free h (A1E _ hh) b hb;rcases hc.grow b o hi with h4|h4|h4
    ·dsimp only at h4;rw[h3]at h4;cases h4
    ·exact absurd h4 h1
    ·dsimp only at h4;omega
 ·rcases A0T.1 hh with hh|hh
  ·rcases hc.born h hh b hb with h1|h1
   ·exact hbl b h1
   ·exact .inr (A1v hs h1)
  ·exact hm.born h (A1E _ hh) b hb
 ·rcases hc.born h hh b hb with h1|h1
  ·exact hR k hk b hkb h1
  ·have:=hRl k hk b hkb
   dsimp only at h1;omega
 ·rcases hc.grow b o hb with h1|h1|h1
  ·exact hm.grow b o h1
  ·exact .inr (hbl b h1)
  ·exact .inr (.inr (A1v hs h1))
theorem Mem.sub (hm:Mem E I (H++R) w):Mem ⟨w,A10 H,I⟩ I H w:=
 ⟨Kept.refl _ _,Le.refl _,hm.inv,hm.left.ok,hm.left.free,fun h hh b hb=> .inl (by simp only[A10,A5P];exact⟨h,hh,hb⟩),hm.left.dist,fun _ _ h=> .inl h⟩
theorem F6 {f:FuncId} [Own P f] {xs:List Operand}{tys:Array TypeId}{vs:List Value}{G:List HItem}{Post:Value->U0->List HItem->Prop} (k:∀v I' H' w',Post v I' H'->Le I I'->Mem E I' (H'++R) w'->WL P N ds ops Q os ((d,v)::l) w') (hm:Mem E I G w)
  (hw:O8 ops l ⟨some d,.call ⟨.value (.func f),xs.toArray,tys⟩,ty,pos,af,g⟩=some true:=by rfl) (hN:Nat.blt d N=true:=by rfl)
  (hx:evs l xs=some vs:=by rfl) (hp:G.Perm (H++R):=by first|exact pm0|exact pm1_0|exact pm1_1|exact pm1_2|exact pm1_3|exact pm2_0|exact pm2_1|exact pm2_2|exact pm2_3|exact pm2_4|exact pm3_0|exact pm3_1|exact pm3_2) (hc:CalM P f vs.toArray I H Post)
   :
  WL P N ds ops Q (⟨some d,.call ⟨.value (.func f),xs.toArray,tys⟩,ty,pos,af,g⟩::os) l w:=
 X6 hw hN hx (hc.run w (hm.perm hp).sub) (fun v w' ⟨I',H',h1,h2⟩=>k v I' H' w' h1 h2.le ((hm.perm hp).back h2))
theorem H8 [TyOne P t] {i b off:Nat}{c:List Value}{e:TypeId}{fr:Nat×Nat}{v:Value} (k:WL P N ds ops Q os ((d,v)::l) w) (hm:Mem E I H w) (hw:O8 ops l ⟨some d,.load t x,ty,pos,af,g⟩=some true:=by rfl) (hN:Nat.blt d N=true:=by rfl)
  (hx:ev l x=some (.pointer (some ⟨b,off,none⟩)):=by rfl) (hb:H[i]?=some (.obj b (.cells c.toArray e fr)):=by first|exact gt0|exact gt1|exact gt2|exact gt3|exact gt4|exact gt5|exact gt6) (hc:c[off]?=some v:=by rfl)
   :WL P N ds ops Q (⟨some d,.load t x,ty,pos,af,g⟩::os) l w:=
 A0q hw hN hx (hm.get hb) (by simpa using hc) k
theorem B0y {n:Nat} [TyAgg P t n] {i b off:Nat}{c:Array Value}{e:TypeId}{fr:Nat×Nat}{vs:List Value} (hm:Mem E I H w) (hw:O8 ops l ⟨some d,.load t x,ty,pos,af,g⟩=some true) (hN:Nat.blt d N=true)
  (hx:ev l x=some (.pointer (some ⟨b,off,none⟩))) (hb:H[i]?=some (.obj b (.cells c e fr))) (hc:(c.toList.drop off).take n=vs) (hl:vs.length=n)
  (k:WL P N ds ops Q os ((d,.agg vs.toArray)::l) w):WL P N ds ops Q (⟨some d,.load t x,ty,pos,af,g⟩::os) l w:=
 A84 hw hN hx (hm.get hb) hl (fun j v hv=>by
  rw[<-hc,A1H]at hv;split at hv
  ·rw[A1f]at hv;simpa using hv
  ·cases hv) k
theorem J4 [TyOne P t] {b off j tc:Nat}{cs:List Value}{v:Value} (k:WL P N ds ops Q os ((d,v)::l) w) (hm:Mem E I H w) (hw:O8 ops l ⟨some d,.load t x,ty,pos,af,g⟩=some true:=by rfl) (hN:Nat.blt d N=true:=by rfl)
  (hx:ev l x=some (.pointer (some ⟨b,off+j,none⟩)):=by rfl) (hp:PtrI I b off tc cs:=by assumption) (hc:cs[j]?=some v:=by rfl)
   :WL P N ds ops Q (⟨some d,.load t x,ty,pos,af,g⟩::os) l w:=by
 obtain⟨c,fr,h1,h2⟩:=hp;exact A0q hw hN hx (hm.inv _ _ h1) (h2 j v hc) k
theorem Y8 {n:Nat} [TyAgg P t n] {b off tc:Nat}{cs:List Value} (k:WL P N ds ops Q os ((d,.agg cs.toArray)::l) w) (hm:Mem E I H w) (hw:O8 ops l ⟨some d,.load t x,ty,pos,af,g⟩=some true:=by rfl) (hN:Nat.blt d N=true:=by rfl)
  (hx:ev l x=some (.pointer (some ⟨b,off,none⟩)):=by rfl) (hp:PtrI I b off tc cs:=by assumption) (hc:cs.length=n:=by rfl)
   :WL P N ds ops Q (⟨some d,.load t x,ty,pos,af,g⟩::os) l w:=by
 obtain⟨c,fr,h1,h2⟩:=hp;exact A84 hw hN hx (hm.inv _ _ h1) hc h2 k
theorem B0z {i b off n by_:Nat} [Elem P t n by_] {c:List Value}{e:TypeId}{v:Value}{dst:Option Nat} (hm:Mem E I H w) (hd:dst=none) (hw:O8 ops l ⟨dst,.store t x y,ty,pos,af,g⟩=some true)
  (hx:ev l x=some (.pointer (some ⟨b,off,none⟩))) (hy:ev l y=some v) (hb:H[i]?=some (.obj b (.cells c.toArray e (0,0)))) (hn:v.cells.toList.length=n) (ho:Nat.ble (off+n) c.length=true)
  (h1:v.cells.toList.all (·.oneCell')=true)
  (k:∀w',Mem E I (H.set i (.obj b (.cells (c.take off++(v.cells.toList++c.drop (off+n))).toArray e (0,0)))) w'->WL P N ds ops Q os l w'):
  WL P N ds ops Q (⟨dst,.store t x y,ty,pos,af,g⟩::os) l w:=
 B18 hd hw hx hy (hm.get hb) (by simpa using hn) (by simpa using A3J ho) h1 (fun w' hb' hk=>k w' (hm.turn hb (by simpa[HItem.blk] using hk) (by
  show w'.heap[b]?=_
  rw[hb'];simp) (.inl rfl)))
theorem B84 {n by_:Nat} [Elem P t n by_] {v:Value}{ty':TypeId}{pos':String}{af':Array Edge} (hm:Mem E I H w) (hN:Nat.blt d N=true)
  (hy:ev l y=some v) (hne:A7C y d=true) (hn:v.cells.toList.length=n) (h1:v.cells.toList.all (·.oneCell')=true)
  (k:∀b w',Mem E I (.obj b (.cells v.cells.toList.toArray t (0,0))::H) w'->WL P N ds ops Q os ((d,.pointer (some ⟨b,0,none⟩))::l) w'):
  WL P N ds ops Q (⟨some d,.alloc t,ty,pos,af,none⟩::⟨none,.store t (.tmp d) y,ty',pos',af',none⟩::os) l w:=
 B6l hN hy hne (by simpa using hn) h1 (fun b w' hb hh hk=>k b w' (hm.add hk (by simpa[HItem.ok] using hh) (fun b' hb'=>by simp only[HItem.blk,U5]at hb';omega)))
theorem B7a {n by_:Nat} [Elem P t n by_] (hm:Mem E I H w) (hw:O8 ops l ⟨some d,.alloc t,ty,pos,af,g⟩=some true) (hN:Nat.blt d N=true) {z:List Value} (hz:(P.info? t).bind (·.zero)=some (.agg z.toArray))
  (k:∀b w',Mem E I (.obj b (.cells z.toArray t (0,0))::H) w'->WL P N ds ops Q os ((d,.pointer (some ⟨b,0,none⟩))::l) w'):
  WL P N ds ops Q (⟨some d,.alloc t,ty,pos,af,g⟩::os) l w:=by
 cases hi:P.info? t with
 |none=>simp[hi]at hz
 |some i=>
  simp only[hi,A1S]at hz;have hk:=Kept.alloc w (.cells z.toArray t (0,0));refine O9 (w':=w.alloc (.cells z.toArray t (0,0))) (v:=.pointer (some ⟨w.heap.size,0,none⟩)) rfl hw hN (fun a ha=>?_) (k _ _ (hm.add hk (heap_alloc_new w _) (fun b hb=>by simp only[HItem.blk,U5]at hb;omega)))
  simp[execOp,Instr.alloc,newVar,newRow,newObj,zeroValue,typeInfo,hi,hz,Value.cells];rfl
theorem B4X {e:TypeId}{sz by_:Nat} [TySlice P t e] [Elem P e sz by_] {d1 i:Nat}{s:Operand}{v u:Value}{n:Nat}{xs:List Value}
  {ty':TypeId}{pos':String}{af':Array Edge} (hm:Mem E I H w) (hN1:Nat.blt d1 N=true) (hN:Nat.blt d N=true)
  (hs:ev l s=some v) (hne:A7C s d1=true) (hx:ev l x=some u) (hi:H[i]?=some (.row v e sz n xs)) (hu:u.cells.toList.length=sz) (h1:u.cells.toList.all (·.oneCell')=true)
  (hsz:Nat.ble sz 1024=true) (hlen:(n+1) *by_<=140737488355328) (hl':n+1<=9223372036854775807)
  (k:∀v' b1 w',Mem E I (H.set i (.row v' e sz (n+1) (xs++u.cells.toList))) w'->WL P N ds ops Q os ((d,v')::(d1,.slice (some ⟨b1,0,none⟩) 1 1)::l) w'):
  WL P N ds ops Q (⟨some d1,.buildSlice t 1 #[(0,x)],ty,pos,af,none⟩::⟨some d,.call ⟨.builtin .append, #[s,.tmp d1], #[t,t]⟩,ty',pos',af',none⟩::os) l w:=
 A7h hN1 hN hs hne hx (hm.getRow hi) (by simpa using hu) h1 (A3J hsz) hlen hl' (J7 _) (fun v' w' ho hk hb=>k v' _ w' (hm.turn hi hk ho (hb.imp_right fun ⟨g,h1,h2⟩=>⟨g,h1,h2⟩)))
theorem U3 {e:TypeId}{sz by_:Nat} [TySlice P t e] [Elem P e sz by_] {a:Option Addr}{n cp:Nat}{i:Int}{xs:List Value} (k:∀b off,PtrI I b off e ((xs.drop (i.toNat *sz)).take sz)->WL P N ds ops Q os ((d,.pointer (some ⟨b,off,none⟩))::l) w) (hw:O8 ops l ⟨some d,.indexAddr t x y,ty,pos,af,g⟩=some true:=by rfl) (hN:Nat.blt d N=true:=by rfl)
  (hx:ev l x=some (.slice a n cp):=by rfl) (hy:ev l y=some (.int .i64 i):=by rfl) (hr:RowI I e sz (.slice a n cp) n xs) (h0:0<=i:=by omega) (h1:i<n:=by omega)
   :
  WL P N ds ops Q (⟨some d,.indexAddr t x y,ty,pos,af,g⟩::os) l w:=by
 obtain⟨b,off,rfl,hp⟩:=hr.at_ i.toNat (by omega);exact U6 hw hN hx hy h0 h1 (k b _ hp)
theorem A0i {α:Type}{enc:α->List Value}{e:TypeId}{sz by_:Nat} [TySlice P t e] [Elem P e sz by_] {a:Option Addr}{n cp:Nat}{i:Int}{xs:List α}{z:α} (k:∀b off,PtrI I b off e (enc z)->WL P N ds ops Q os ((d,.pointer (some ⟨b,off,none⟩))::l) w) (hw:O8 ops l ⟨some d,.indexAddr t x y,ty,pos,af,g⟩=some true:=by rfl) (hN:Nat.blt d N=true:=by rfl)
  (hx:ev l x=some (.slice a n cp):=by rfl) (hy:ev l y=some (.int .i64 i):=by rfl) (hr:RowI I e sz (.slice a n cp) n (xs.flatMap enc)) (he:∀a,(enc a).length=sz) (h0:0<=i:=by omega) (h1:i<n:=by omega) (hz:xs[i.toNat]?=some z)
   :
  WL P N ds ops Q (⟨some d,.indexAddr t x y,ty,pos,af,g⟩::os) l w:=by
 obtain⟨b,off,rfl,hp⟩:=hr.flat he hz (by omega);exact U6 hw hN hx hy h0 h1 (k b _ hp)
end
section
variable {P:Program}{N:Nat}{ds:List Deferred}{K:Act->Prop}{X:List Nat}{l l':Log}{w w':World}{ops:Array Oper}{os:List Oper}{o:Oper}
variable {d:Nat}{ty:TypeId}{pos:String}{af:Array Edge}{g:Option (Nat×Bool)}{t t':TypeId}{x y:Operand}{ik:IntKind}
theorem A1V {x:Operand}{v:Value} (k:WV P N ds ops X w K os ((d,v)::l)) (hw:O8 ops l ⟨some d,.move x,ty,pos,af,g⟩=some true:=by rfl) (hN:Nat.blt d N=true:=by rfl) (hx:ev l x=some v:=by rfl)
   :WV P N ds ops X w K (⟨some d,.move x,ty,pos,af,g⟩::os) l:=
 A0V rfl hw hN (fun w' hkq a ha=>by simp[execOp,ha.ev hx]) k
theorem A9h {x:Operand}{v:Value} (k:WV P N ds ops X w K os ((d,v)::l)) (hw:O8 ops l ⟨some d,.assign x,ty,pos,af,g⟩=some true:=by rfl) (hN:Nat.blt d N=true:=by rfl) (hx:ev l x=some v:=by rfl)
   :WV P N ds ops X w K (⟨some d,.assign x,ty,pos,af,g⟩::os) l:=
 A0V rfl hw hN (fun w' hkq a ha=>by simp[execOp,ha.ev hx]) k
theorem A8p {c x y:Operand}{v:Value} (k:WV P N ds ops X w K os ((d,v)::l)) (hw:O8 ops l ⟨some d,.pick c x y,ty,pos,af,g⟩=some true:=by rfl) (hN:Nat.blt d N=true:=by rfl)
  (hc:ev l c=some (.bool true):=by rfl) (hx:ev l x=some v:=by rfl)  :WV P N ds ops X w K (⟨some d,.pick c x y,ty,pos,af,g⟩::os) l:=
 A0V rfl hw hN (fun w' hkq a ha=>by simp[execOp,ha.ev hc,ha.ev hx,asBool]) k
theorem A7K {c x y:Operand}{v:Value} (k:WV P N ds ops X w K os ((d,v)::l)) (hw:O8 ops l ⟨some d,.pick c x y,ty,pos,af,g⟩=some true:=by rfl) (hN:Nat.blt d N=true:=by rfl)
  (hc:ev l c=some (.bool false):=by rfl) (hy:ev l y=some v:=by rfl)  :WV P N ds ops X w K (⟨some d,.pick c x y,ty,pos,af,g⟩::os) l:=
 A0V rfl hw hN (fun w' hkq a ha=>by simp[execOp,ha.ev hc,ha.ev hy,asBool]) k
theorem B6I {a b:Int} (k:WV P N ds ops X w K os ((d,.bool (decide (a<b)))::l)) (hw:O8 ops l ⟨some d,.binOp .lss t x y t',ty,pos,af,g⟩=some true:=by rfl) (hN:Nat.blt d N=true:=by rfl) (hx:ev l x=some (.int ik a):=by rfl) (hy:ev l y=some (.int ik b):=by rfl)
   :WV P N ds ops X w K (⟨some d,.binOp .lss t x y t',ty,pos,af,g⟩::os) l:=
 A0V rfl hw hN (fun w' hkq c hc=>by simp[execOp,hc.ev hx,hc.ev hy,eqGuard,binOp,Op.intCmp]) k
theorem B4u {a b:Int} (k:WV P N ds ops X w K os ((d,.bool (decide (a≠b)))::l)) (hw:O8 ops l ⟨some d,.binOp .neq t x y t',ty,pos,af,g⟩=some true:=by rfl) (hN:Nat.blt d N=true:=by rfl) (hx:ev l x=some (.int ik a):=by rfl) (hy:ev l y=some (.int ik b):=by rfl)
   :WV P N ds ops X w K (⟨some d,.binOp .neq t x y t',ty,pos,af,g⟩::os) l:=
 A0V rfl hw hN (fun w' hkq c hc=>by simp[execOp,hc.ev hx,hc.ev hy,eqGuard,binOp,Op.intCmp,A1Z,bne]) k
theorem A6P [TyStr P t] {s:List UInt8} (k:WV P N ds ops X w K os ((d,.int .i64 (s.length:Int))::l)) (hw:O8 ops l ⟨some d,.call ⟨.builtin .len, #[x], #[t]⟩,ty,pos,af,g⟩=some true:=by rfl) (hN:Nat.blt d N=true:=by rfl)
  (hx:ev l x=some (str s):=by rfl)  :
  WV P N ds ops X w K (⟨some d,.call ⟨.builtin .len, #[x], #[t]⟩,ty,pos,af,g⟩::os) l:=
 A0V rfl hw hN (fun w' hkq a ha=>by
  have h1:=run_underlying (P:=P) (w:=w') (TyStr.out (P:=P) (t:=t));simp[execOp,resolve,invoke,builtin,Builtin.len_,ha.ev hx,h1,goInt,A4d]) k
theorem A47 {e:TypeId} [TySlice P t e] {b:Option Addr}{n c:Nat} (k:WV P N ds ops X w K os ((d,.int .i64 (n:Int))::l)) (hw:O8 ops l ⟨some d,.call ⟨.builtin .len, #[x], #[t]⟩,ty,pos,af,g⟩=some true:=by rfl) (hN:Nat.blt d N=true:=by rfl)
  (hx:ev l x=some (.slice b n c):=by rfl)  :
  WV P N ds ops X w K (⟨some d,.call ⟨.builtin .len, #[x], #[t]⟩,ty,pos,af,g⟩::os) l:=
 A0V rfl hw hN (fun w' hkq a ha=>by
  have h1:=run_underlying (P:=P) (w:=w') (TySlice.out (P:=P) (t:=t));simp[execOp,resolve,invoke,builtin,Builtin.len_,ha.ev hx,h1,goInt]) k
theorem A8a {s u:List UInt8} (k:WV P N ds ops X w K os ((d,.bool (decide (s≠u)))::l)) (hw:O8 ops l ⟨some d,.binOp .neq t x y t',ty,pos,af,g⟩=some true:=by rfl) (hN:Nat.blt d N=true:=by rfl)
  (hx:ev l x=some (str s):=by rfl) (hy:ev l y=some (str u):=by rfl)  :
  WV P N ds ops X w K (⟨some d,.binOp .neq t x y t',ty,pos,af,g⟩::os) l:=
 A0V rfl hw hN (fun w' hkq c hc=>by simp[execOp,hc.ev hx,hc.ev hy,eqGuard,binOp,Op.stringOp];exact A1Z s u) k
theorem B4t {a b:Int} (k:WV P N ds ops X w K os ((d,.int .i64 (a+b))::l)) (hw:O8 ops l ⟨some d,.binOp .add t x y t',ty,pos,af,g⟩=some true:=by rfl) (hN:Nat.blt d N=true:=by rfl)
  (hx:ev l x=some (.int .i64 a):=by rfl) (hy:ev l y=some (.int .i64 b):=by rfl) (h: -9223372036854775808<=a+b/\a+b<=9223372036854775807:=by omega)
   :WV P N ds ops X w K (⟨some d,.binOp .add t x y t',ty,pos,af,g⟩::os) l:=
 A0V rfl hw hN (fun w' hkq c hc=>by simp[execOp,hc.ev hx,hc.ev hy,eqGuard,binOp,Op.intArith,IntWalk.i64_in _ h]) k
theorem B9c {a b:Int} (k:WV P N ds ops X w K os ((d,.int .i64 (a-b))::l)) (hw:O8 ops l ⟨some d,.binOp .sub t x y t',ty,pos,af,g⟩=some true:=by rfl) (hN:Nat.blt d N=true:=by rfl)
  (hx:ev l x=some (.int .i64 a):=by rfl) (hy:ev l y=some (.int .i64 b):=by rfl) (h: -9223372036854775808<=a-b/\a-b<=9223372036854775807:=by omega)
   :WV P N ds ops X w K (⟨some d,.binOp .sub t x y t',ty,pos,af,g⟩::os) l:=
 A0V rfl hw hN (fun w' hkq c hc=>by simp[execOp,hc.ev hx,hc.ev hy,eqGuard,binOp,Op.intArith,IntWalk.i64_in _ h]) k
theorem B4v {b:Bool} (k:WV P N ds ops X w K os ((d,.bool (!b))::l)) (hw:O8 ops l ⟨some d,.unOp .not t x,ty,pos,af,g⟩=some true:=by rfl) (hN:Nat.blt d N=true:=by rfl)
  (hx:ev l x=some (.bool b):=by rfl)  :WV P N ds ops X w K (⟨some d,.unOp .not t x,ty,pos,af,g⟩::os) l:=
 A0V rfl hw hN (fun w' hkq c hc=>by simp[execOp,hc.ev hx,Op.unary]) k
theorem A7J [TyOne P t] {b off:Nat}{c:Array Value}{e:TypeId}{fr:Nat×Nat}{v:Value} (hw:O8 ops l ⟨some d,.load t x,ty,pos,af,g⟩=some true) (hN:Nat.blt d N=true)
  (hx:ev l x=some (.pointer (some ⟨b,off,none⟩))) (hb:w.heap[b]?=some (.cells c e fr)) (hxb:b∉X) (hc:c[off]?=some v)
  (k:WV P N ds ops X w K os ((d,v)::l)):WV P N ds ops X w K (⟨some d,.load t x,ty,pos,af,g⟩::os) l:=
 A0V rfl hw hN (fun w' hkq a ha=>by
  obtain⟨dd,h1,h2⟩:=TyOne.out (P:=P) (t:=t);have h4:=A2Z (hkq.get hb hxb) hc;simp[execOp,Instr.loadAt,Instr.sureAddr,loadVar,A23 h1,h2,ha.ev hx,load,Sem.run,h4]) k
theorem S9 {i off:Nat} [Fld P t i off] {b o':Nat} (k:WV P N ds ops X w K os ((d,.pointer (some ⟨b,o'+off,none⟩))::l)) (hw:O8 ops l ⟨some d,.fieldAddr t x i,ty,pos,af,g⟩=some true:=by rfl) (hN:Nat.blt d N=true:=by rfl)
  (hx:ev l x=some (.pointer (some ⟨b,o',none⟩)):=by rfl)  :
  WV P N ds ops X w K (⟨some d,.fieldAddr t x i,ty,pos,af,g⟩::os) l:=
 A0V rfl hw hN (fun w' hkq a ha=>by
  obtain⟨fs,f,inf,h1,h2,h3,h4,h5⟩:=Fld.out (P:=P) (t:=t) (i:=i);have h6:=run_underlying (P:=P) (w:=w') h1;simp[execOp,Instr.fieldAt,Instr.sureAddr,ha.ev hx,h6,h2,fieldPlace,sizeOf,typeInfo,h4,h5,h3,Addr.add_lit]) k
theorem A4f {e:TypeId}{sz by_:Nat} [TySlice P t e] [Elem P e sz by_] {b o' n cp:Nat}{i:Int} (hw:O8 ops l ⟨some d,.indexAddr t x y,ty,pos,af,g⟩=some true:=by rfl) (hN:Nat.blt d N=true:=by rfl)
  (hx:ev l x=some (.slice (some ⟨b,o',none⟩) n cp):=by rfl) (hy:ev l y=some (.int .i64 i):=by rfl) (h0:0<=i:=by omega) (h1:i<n:=by omega)
  (k:WV P N ds ops X w K os ((d,.pointer (some ⟨b,o'+i.toNat *sz,none⟩))::l)):
  WV P N ds ops X w K (⟨some d,.indexAddr t x y,ty,pos,af,g⟩::os) l:=
 A0V rfl hw hN (fun w' hkq a ha=>by
  obtain⟨inf,z,hi,_,hs,_,_,_⟩:=Elem.out (P:=P) (e:=e);have h6:=run_underlying (P:=P) (w:=w') (TySlice.out (P:=P) (t:=t));simp[execOp,Instr.indexAt,asIntOf,ha.ev hx,ha.ev hy,h6,h0,h1,sizeOf,typeInfo,hi,hs,Addr.add_lit]) k
theorem B03 {n:Nat} [TyAgg P t n] {b off:Nat}{c:Array Value}{e:TypeId}{fr:Nat×Nat}{vs:List Value} (hw:O8 ops l ⟨some d,.load t x,ty,pos,af,g⟩=some true) (hN:Nat.blt d N=true)
  (hx:ev l x=some (.pointer (some ⟨b,off,none⟩))) (hb:w.heap[b]?=some (.cells c e fr)) (hxb:b∉X) (hl:vs.length=n) (hc:∀j v,vs[j]?=some v->c[off+j]?=some v)
  (k:WV P N ds ops X w K os ((d,.agg vs.toArray)::l)):WV P N ds ops X w K (⟨some d,.load t x,ty,pos,af,g⟩::os) l:=
 A0V rfl hw hN (fun w' hkq a ha=>by
  obtain⟨dd,i,h1,h2,h3,h4⟩:=TyAgg.out (P:=P) (t:=t);have h5:=run_loadCells_list (P:=P) w' ⟨b,off,none⟩ vs (fun j v hv=>by rw[Addr.add_lit];exact A2Z (hkq.get hb hxb) (hc j v hv));rw[hl]at h5;simp[execOp,Instr.loadAt,Instr.sureAddr,loadVar,A23 h1,h2,ha.ev hx,sizeOf,typeInfo,h3,h4,h5]) k
theorem A4X {places:List (Nat×Nat)}{zero:List Value} [StructT P t places zero] {ps:List (Nat×Operand)}{vs:List (Nat×Value)}{r:List Value}
  (k:WV P N ds ops X w K os ((d,.agg r.toArray)::l)) (hw:O8 ops l ⟨some d,.build t ps.toArray,ty,pos,af,g⟩=some true:=by rfl) (hN:Nat.blt d N=true:=by rfl)
  (hx:evp l ps=some vs:=by rfl) (hr:bld places zero vs=some r:=by rfl)  :
  WV P N ds ops X w K (⟨some d,.build t ps.toArray,ty,pos,af,g⟩::os) l:=
 A0V rfl hw hN (fun w' hkq a ha=>by
  have e1:=ha.evp hx;obtain⟨fs,h1,h2,h3⟩:=StructT.out (P:=P) (t:=t);have h4:=run_underlying (P:=P) (w:=w') h1;have h5:=A55 (P:=P) w' _ _ h2;have h6:=A7w places vs zero r hr;simp only[bind_pure_comp]at h5;simp only[A3I]at h6;cases hi:P.info? t with
  |none=>simp[hi]at h3
  |some i=>
   simp only[hi,A1S]at h3;simp[execOp,Instr.build,e1,zeroValue,typeInfo,hi,h3,h4,A70,h5,Value.cells,h6]) k
theorem A7k [TyBool P t] {a b:Bool} (k:WV P N ds ops X w K os ((d,.bool (decide (a≠b)))::l)) (hw:O8 ops l ⟨some d,.binOp .neq t x y t',ty,pos,af,g⟩=some true:=by rfl) (hN:Nat.blt d N=true:=by rfl)
  (hx:ev l x=some (.bool a):=by rfl) (hy:ev l y=some (.bool b):=by rfl)  :
  WV P N ds ops X w K (⟨some d,.binOp .neq t x y t',ty,pos,af,g⟩::os) l:=
 A0V rfl hw hN (fun w' hkq c hc=>by
  have h1:=run_equalIn_bool' (P:=P) w' 9999 t a b (TyBool.out (P:=P) (t:=t));simp only[execOp,hc.ev hx,hc.ev hy,eqGuard,binOp,Op.equal,Op.maxDepth];simp[h1,A1Z]) k
theorem A7l {ks:List FK} [FlatT P t ks] {xs ys:List Value} (k:WV P N ds ops X w K os ((d,.bool (!(A2c xs ys)))::l)) (hw:O8 ops l ⟨some d,.binOp .neq t x y t',ty,pos,af,g⟩=some true:=by rfl) (hN:Nat.blt d N=true:=by rfl)
  (hx:ev l x=some (.agg xs.toArray):=by rfl) (hy:ev l y=some (.agg ys.toArray):=by rfl) (h1:A2C ks xs=true:=by rfl) (h2:A2C ks ys=true:=by rfl)
   :WV P N ds ops X w K (⟨some d,.binOp .neq t x y t',ty,pos,af,g⟩::os) l:=
 A0V rfl hw hN (fun w' hkq c hc=>by
  obtain⟨fs,a1,a2,a3,a4⟩:=FlatT.out (P:=P) (t:=t);have hf:P.fieldsOf t=fs:=by simp[Program.fieldsOf,a1]
  have r1:=run_eqGuard_agg (P:=P) w' .neq t x y xs.toArray ys.toArray a4;have r2:=run_equalIn_agg (P:=P) w' 9999 t xs.toArray ys.toArray (by rw[hf];exact a1) a3;rw[hf,A6A xs ys _ _ 0 _ a2 h1 h2]at r2;simp only[execOp,hc.ev hx,hc.ev hy,Sem.run_bind,r1,Result.andThen_ok,run_neq_struct,r2,Sem.run_pure,A2a]) k
theorem Z4 {p:Addr} (k:WV P N ds ops X w K os ((d,.pointer (some p))::l)) (hw:O8 ops l ⟨some d,.nilCheck x,ty,pos,af,g⟩=some true:=by rfl) (hN:Nat.blt d N=true:=by rfl)
  (hx:ev l x=some (.pointer (some p)):=by rfl)  :WV P N ds ops X w K (⟨some d,.nilCheck x,ty,pos,af,g⟩::os) l:=
 A0V rfl hw hN (fun w' hkq c hc=>by simp[execOp,hc.ev hx]) k
theorem A9g {a b:Int} (k:WV P N ds ops X w K os ((d,.int .u8 (a+b))::l)) (hw:O8 ops l ⟨some d,.binOp .add t x y t',ty,pos,af,g⟩=some true:=by rfl) (hN:Nat.blt d N=true:=by rfl)
  (hx:ev l x=some (.int .u8 a):=by rfl) (hy:ev l y=some (.int .u8 b):=by rfl) (h:0<=a+b/\a+b<=255:=by omega)
   :WV P N ds ops X w K (⟨some d,.binOp .add t x y t',ty,pos,af,g⟩::os) l:=
 A0V rfl hw hN (fun w' hkq c hc=>by simp[execOp,hc.ev hx,hc.ev hy,eqGuard,binOp,Op.intArith,IntWalk.u8_in _ h]) k
theorem A4k {e:TypeId}{sz by_ n:Nat} [TyArr P t n e] [Elem P e sz by_] {b o':Nat}{i:Int} (k:WV P N ds ops X w K os ((d,.pointer (some ⟨b,o'+i.toNat *sz,none⟩))::l)) (hw:O8 ops l ⟨some d,.indexAddr t x y,ty,pos,af,g⟩=some true:=by rfl) (hN:Nat.blt d N=true:=by rfl)
  (hx:ev l x=some (.pointer (some ⟨b,o',none⟩)):=by rfl) (hy:ev l y=some (.int .i64 i):=by rfl) (h0:0<=i:=by omega) (h1:i<n:=by omega)
   :
  WV P N ds ops X w K (⟨some d,.indexAddr t x y,ty,pos,af,g⟩::os) l:=
 A0V rfl hw hN (fun w' hkq a ha=>by
  obtain⟨inf,z,hi,_,hs,_,_,_⟩:=Elem.out (P:=P) (e:=e);have h6:=run_underlying (P:=P) (w:=w') (TyArr.out (P:=P) (t:=t));simp[execOp,Instr.indexAt,Instr.sureAddr,asIntOf,ha.ev hx,ha.ev hy,h6,h0,h1,sizeOf,typeInfo,hi,hs,Addr.add_lit]) k
end
end Go.Fw
