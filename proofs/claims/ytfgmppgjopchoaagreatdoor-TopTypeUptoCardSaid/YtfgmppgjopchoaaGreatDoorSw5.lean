/- Own work. -/
import Derived.Test.YtfgmppgjopchoaaGreatDoorSw4
import Derived.Maps.RangeRun
import Derived.Laws.OwnMore
set_option maxHeartbeats 64000000
namespace Go.Fw
open Go
section
variable {P:Program}{ops:Array Oper}{md:Region.Mode}{C:World->Prop}
def uOp (P:Program) (ops:Array Oper) (i:Nat) (K:Act->World->Prop) (a:Act) (w:World):Prop:=
 match ops[i]? with
 |none=>K a w
 |some o=>if Region.wanted o (yielded ops a.tmps) then (∃u w',(execOp a.eval o).run P w=.ok (.value u) w'/\K (a.put o.dst u) w')\/
   (∃f args,(execOp a.eval o).run P w=.ok (.enter f args) w/\Calls P f args w (fun e w'=> ∃u,e=.returned u/\K (a.put o.dst u) w'))\/
   (∃w',(execOp a.eval o).run P w=.ok .skip w'/\K (a.put o.dst undef) w') else K (a.put o.dst undef) w
theorem B8J {Q:Exit->Act->World->Prop}{i:Nat}{K:Act->World->Prop}{a:Act}{w:World} (h:uOp P ops i K a w):wpOp P ops Q i K a w:=by
 unfold uOp at h
 unfold wpOp
 cases ho:ops[i]? with
 |none=>simpa[ho] using h
 |some o=>
  simp only[ho]at h |-;split
  ·rename_i hw
   rw[if_pos hw]at h
   left
   rcases h with ⟨u,w',h1,h2⟩|⟨f,args,h1,h2⟩|⟨w',h1,h2⟩
   ·unfold Oper.wp
    rw[h1,Oper.upon_value];exact h2
   ·unfold Oper.wp
    rw[h1,Oper.upon_enter];exact Calls.mono h2 (fun e w' ⟨u,he,hk⟩=>by subst he;exact hk)
   ·unfold Oper.wp
    rw[h1,Oper.upon_skip];exact h2
  ·rename_i hw
   rw[if_neg hw]at h;exact h
theorem B8B {i:Nat}{K K':Act->World->Prop}{a:Act}{w:World} (hk:∀a w,K a w->K' a w) (h:uOp P ops i K a w):uOp P ops i K' a w:=by
 unfold uOp at h |-
 cases ho:ops[i]? with
 |none=>simp only[ho]at h |-;exact hk _ _ h
 |some o=>
  simp only[ho]at h |-;split
  ·rename_i hw
   rw[if_pos hw]at h;rcases h with ⟨u,w',h1,h2⟩|⟨f,args,h1,h2⟩|⟨w',h1,h2⟩
   ·exact .inl ⟨u,w',h1,hk _ _ h2⟩
   ·exact .inr (.inl ⟨f,args,h1,Calls.mono h2 (fun e w' ⟨u,he,h⟩=>⟨u,he,hk _ _ h⟩)⟩)
   ·exact .inr (.inr ⟨w',h1,hk _ _ h2⟩)
  ·rename_i hw
   rw[if_neg hw]at h;exact hk _ _ h
theorem A2j.uOp {i:Nat}{o:Oper}{v:Value}{a:Act}{w:World} (hi:ops[i]?=some o) (hy:A2j P ops C o v a) (hC:C w) {K:Act->World->Prop} (h:K (a.put o.dst v) w):uOp P ops i K a w:=by
 unfold Fw.uOp
 simp only[hi];rcases hy with ⟨hw,hv⟩|⟨hw,rfl⟩
 ·rw[if_pos hw];exact .inl ⟨v,w,hv w hC,h⟩
 ·rw[if_neg (by rw[hw];simp)];exact h
theorem C6R {j:Nat}{oi oj:Oper}{v:Value} (hj:ops[j]?=some oj) (hap:oi.apart ops oj=true)
  (hsi:∀cs b,oi.op≠ .select cs b) (hsj:∀cs b,oj.op≠ .select cs b) {K:Act->World->Prop}{a:Act}{w:World}
  (hy:A2j P ops C oi v a) (h:uOp P ops j K (a.put oi.dst v) w):
  uOp P ops j (fun a' w'=>A2j P ops C oi v a'/\K (a'.put oi.dst v) w') a w:=by
 obtain⟨h1,h2,h3⟩:=Oper.apart_spec hap;have keep:∀(a:Act),A2j P ops C oi v a->∀u,A2j P ops C oi v (a.put oj.dst u):=fun a hy u=>by
  unfold A2j at hy |-
  rw[execOp_put oi hsi a oj.dst u h3,wanted_put oi a oj.dst u h3];exact hy
 unfold uOp at *
 simp only[hj]at *;rw[wanted_put oj a oi.dst v h1]at h;split
 ·rename_i hw
  rw[if_pos hw]at h;rcases h with ⟨u,w',hu,hn⟩|⟨f,args,hu,hn⟩|⟨w',hu,hn⟩
  ·rw[execOp_put oj hsj a oi.dst v h1]at hu
   exact .inl ⟨u,w',hu,keep a hy u,by rw[<-Act.put_comm a v u h2];exact hn⟩
  ·rw[execOp_put oj hsj a oi.dst v h1]at hu
   exact .inr (.inl ⟨f,args,hu,Calls.mono hn (fun e w' ⟨u,he,h⟩=>⟨u,he,keep a hy u,by rw[<-Act.put_comm a v u h2];exact h⟩)⟩)
  ·rw[execOp_put oj hsj a oi.dst v h1]at hu
   exact .inr (.inr ⟨w',hu,keep a hy _,by rw[<-Act.put_comm a v undef h2];exact hn⟩)
 ·rename_i hw
  rw[if_neg hw]at h;exact⟨keep a hy _,by rw[<-Act.put_comm a v undef h2];exact h⟩
def B1y (P:Program) (md:Region.Mode) (ops:Array Oper) (C:World->Prop) (n:Nat) (L:Array Bool->Act->World->Prop):Nat->Array Bool->Act->World->Prop
 |0,listed,a,w=>L listed a w
 |f+1,listed,a,w=>Region.ready md ops listed≠ []/\∀i∈Region.ready md ops listed,i<n/\uOp P ops i (fun a' w'=>C w'/\B1y P md ops C n L f (listed.setIfInBounds i true) a' w') a w
theorem B63 {n g:Nat}{L:Array Bool->Act->World->Prop}{Q':Exit->Act->World->Prop} (hL:∀listed a w,L listed a w->wpAny P md ops Q' g listed a w):
  ∀(f:Nat) (listed:Array Bool) (a:Act) (w:World),B1y P md ops C n L f listed a w->wpAny P md ops Q' (f+g) listed a w
 |0,listed,a,w,h=>by rw[W9];exact hL _ _ _ h
 |f+1,listed,a,w,h=>by
  rw[show f+1+g=(f+g)+1 by omega];exact⟨fun h0=>absurd h0 h.1,fun i hi=>B8J (B8B (fun a' w' h'=>B63 hL f _ a' w' h'.2) (h.2 i hi).2)⟩
theorem C6S {n i:Nat}{oi:Oper}{v:Value}{L:Array Bool->Act->World->Prop} (hi:ops[i]?=some oi) (hsel:∀(j:Nat) (o:Oper) cs b,ops[j]?=some o->o.op≠ .select cs b)
  (hs:Region.sinkB md ops n=true) (hc:Region.chainB md ops n=true) (hn:n<ops.size) (hin:i<n)
  (hdone:∀listed a w,L listed a w->∀j∈Region.ready md ops listed,n<=j):
  ∀(f:Nat) (listed:Array Bool) (a:Act) (w:World),C w->HeadInv md ops n listed->
   (∀j oj,ops[j]?=some oj->j≠i->listed.getD j true=false->(∀e∈oj.after,Region.binds md e=true->e.on≠i)->oi.apart ops oj=true)->
   i∈Region.ready md ops listed->A2j P ops C oi v a->
   B1y P md ops C n L f (listed.setIfInBounds i true) (a.put oi.dst v) w->B1y P md ops C n L (f+1) listed a w:=by
 intro f;induction f with
 |zero=>
  intro listed a w hC inv _ hr hy H;have hun:=(mem_ready.1 hr).1;refine⟨fun h=>(by rw[h]at hr;cases hr),fun j hj=>?_⟩
  have hjn:j<n:=by
   rcases U2 j n with h|h
   ·exact h
   ·exact absurd hj (tail_waits hs hc hn inv _ i rfl hin hun j h)
  refine⟨hjn,?_⟩
  by_cases hji:j=i
  ·subst hji;exact hy.uOp hi hC ⟨hC,H⟩
  ·have:=hdone _ _ _ H j (ready_mono hj hji)
   omega
 |succ f ih=>
  intro listed a w hC inv hfree hr hy H;have hun:=(mem_ready.1 hr).1;refine⟨fun h=>(by rw[h]at hr;cases hr),fun j hj=>?_⟩
  have hjn:j<n:=by
   rcases U2 j n with h|h
   ·exact h
   ·exact absurd hj (tail_waits hs hc hn inv _ i rfl hin hun j h)
  refine⟨hjn,?_⟩
  by_cases hji:j=i
  ·subst hji;exact hy.uOp hi hC ⟨hC,H⟩
  ·have h1:=(H.2 j (ready_mono hj hji)).2
   obtain⟨hjun,oj,hoj,hall⟩:=mem_ready.1 hj;have hnot:∀e∈oj.after,Region.binds md e=true->e.on≠i:=fun e he hb heq=>by
    have h1:=hall e he hb;rw[heq,getD_both hun]at h1;cases h1
   have h2:=C6R hoj (hfree j oj hoj hji hjun hnot) (fun cs b=>hsel i oi cs b hi) (fun cs b=>hsel j oj cs b hoj) hy h1;have hfree':∀k ok,ops[k]?=some ok->k≠i->(listed.setIfInBounds j true).getD k true=false->
     (∀e∈ok.after,Region.binds md e=true->e.on≠i)->oi.apart ops ok=true:=fun k ok hk hki hun hno=>by
    refine hfree k ok hk hki ?_ hno
    by_cases hjk:j=k
    ·subst hjk;exact hjun
    ·rw[getD_set_ne true hjk]at hun;exact hun
   refine B8B (fun a' w' h3=>⟨h3.2.1,ih (listed.setIfInBounds j true) a' w' h3.2.1 (inv.set hj hjn) hfree' (ready_mono hr (Ne.symm hji)) h3.1 ?_⟩) h2
   rw[A74 _ _ hji];exact h3.2.2
def B7I (md:Region.Mode) (ops:Array Oper) (n:Nat):List Nat->Array Bool->Bool
 | [],_=>true
 |k::ks,listed=>(Region.ready md ops listed).contains k && Region.free md ops listed k && decide (k<n) && B7I md ops n ks (listed.setIfInBounds k true)
def B7J:List Nat->Array Bool->Array Bool
 | [],l=>l
 |k::ks,l=>B7J ks (l.setIfInBounds k true)
theorem B0m {n g f:Nat}{Lq:Act->World->Prop} (hsel:Region.noSelect ops=true) (hs:Region.sinkB md ops n=true) (hc:Region.chainB md ops n=true) (hn:n<ops.size):
  ∀(ks:List Nat) (l:List Oper) (listed:Array Bool) (a:Act) (w:World),C w->ks.map (ops[·]?)=l.map some->HeadInv md ops n listed->B7I md ops n ks listed=true->
  A7c P ops C (fun a'=>B1y P md ops C n (fun listed' a' w'=>Region.seqB md ops g n listed'=true/\Lq a' w') f (B7J ks listed) a' w) l a->
  B1y P md ops C n (fun listed' a' w'=>Region.seqB md ops g n listed'=true/\Lq a' w') (l.length+f) listed a w
 | [],[],listed,a,w,_,_,_,_,h=>by rw[List.length_nil,W9];exact h
 |k::ks,o::l,listed,a,w,hC,hl,inv,hB,h=>by
  simp only[X7,A2L]at hl;obtain⟨h0,hl'⟩:=hl;simp only[B7I,V5,decide_eq_true_eq]at hB;obtain⟨⟨⟨hr,hf⟩,hkn⟩,hB'⟩:=hB;have hr':k∈Region.ready md ops listed:=by simpa using hr
  obtain⟨v,hy,hK⟩:=h;rw[show (o::l).length+f=(l.length+f)+1 by simp only[F9];omega];exact C6S h0 (Region.noSelect_spec hsel) hs hc hn hkn (fun listed' a' w' hL=>seqB_ready hL.1) (l.length+f) listed a w hC inv (Region.free_spec h0 hf) hr' hy
   (B0m hsel hs hc hn ks l _ _ w hC hl' (inv.set hr' hkn) hB' hK)
 | [],_::_,_,_,_,_,hl,_,_,_=>by simp at hl
 |_::_,[],_,_,_,_,hl,_,_,_=>by simp at hl
def B9d (ops:Array Oper) (ks:List Nat) (n:Nat):Bool:=
 Region.noSelect ops && decide (n<ops.size) && Region.sinkB .any ops n && Region.chainB .any ops n && B7I .any ops n ks (Array.replicate ops.size false) && decide (ks.length<=n) && ks.all (fun k=>Nat.blt k ops.size)
theorem B4h {id:Nat}{Q:Exit->Act->World->Prop}{a:Act}{w:World}{l:List Oper} (ks:List Nat) (n:Nat) (hm:P.follows .mixedOrders=true) (hB:B9d l.toArray ks n=true)
  (hC:C { w with drawn:=w.drawn+1})
  (h:A7c P l.toArray C (fun a'=>B1y P .any l.toArray C n (fun listed' a' w'=>Region.seqB .any l.toArray (l.length-n) n listed'=true/\wpList P l.toArray Q (l.drop n) a' w') (n-ks.length) (B7J ks (Array.replicate l.length false)) a' { w with drawn:=w.drawn+1}) (A2Z l ks) a):
  (Code.region id l.toArray true).wp P Q a w:=by
 simp only[B9d,V5,decide_eq_true_eq]at hB;obtain⟨⟨⟨⟨⟨⟨hsel,hn⟩,hs⟩,hc⟩,hlex⟩,hlen⟩,hks⟩:=hB;have hn':n<l.length:=by simpa using hn
 have hdl:(l.drop n).length=l.length-n:=by simp
 obtain⟨k1,k2⟩:=A37 l ks (by simpa using hks);have inv0:HeadInv .any l.toArray n (Array.replicate l.length false):=
  ⟨by simp,fun j oj _ hl=>(by rw[getD_replicate_false]at hl;cases hl),fun t _ ht=>getD_in (by simpa using ht) (getD_replicate_false _ _)⟩
 have H:=B0m (md:=.any) (g:=l.length-n) (f:=n-ks.length) hsel hs hc hn ks (A2Z l ks) _ a _ hC k1 inv0 (by simpa using hlex) h;refine wp_region_any hm ?_
 have:=B63 (Q':=Q) (g:=l.length-n) (fun listed a' w' hL=>by
  have:=wpAny_of_seq (md:=.any) (Q':=Q) (l.drop n) n listed a' w' (fun j=>by simp) (by rw[hdl];exact hL.1) hL.2
  rwa [hdl]at this) _ _ _ _ H
 rw[k2,show ks.length+(n-ks.length)+(l.length-n)=l.length by omega]at this;simpa using this
end
section
variable {P:Program}{N:Nat}{ds:List Deferred}{X:List Nat}{Q:Exit->Act->World->Prop}{l:Log}{w w' w0:World}{os tail:List Oper}{ops:Array Oper}{E:Ent}{I:P7}{G R H:List HItem}{o:Oper}
structure WA (P:Program) (N:Nat) (ds:List Deferred) (ops:Array Oper) (Q:Exit->Act->World->Prop) (X:List Nat) (w0:World) (n f:Nat) (listed:Array Bool) (tail:List Oper) (l:Log) (w:World):Prop where
 run:∀a,Fits N ds l a->B1y P .any ops (fun w'=>Kept X w0 w') n (fun listed' a' w'=>Region.seqB .any ops (ops.size-n) n listed'=true/\wpList P ops Q tail a' w') f listed a w
structure WU (P:Program) (N:Nat) (ds:List Deferred) (ops:Array Oper) (Q:Exit->Act->World->Prop) (X:List Nat) (w0:World) (n f:Nat) (listed:Array Bool) (tail:List Oper) (o:Oper) (l:Log) (w:World):Prop where
 run:∀a,Fits N ds l a->∀i,ops[i]?=some o->uOp P ops i (fun a' w'=>Kept X w0 w'/\B1y P .any ops (fun w'=>Kept X w0 w') n (fun listed' a' w'=>Region.seqB .any ops (ops.size-n) n listed'=true/\wpList P ops Q tail a' w') f listed a' w') a w
theorem A1q [Mixed P] {id:Nat} (hm:Mem E I (G++R) w) (ks:List Nat) (n:Nat) (hB:B9d os.toArray ks n=true:=by kernel_rfl)
  (h:∀wd,Mem E I (G++R) wd->Mem ⟨wd,A2p G,I⟩ I G wd->WV P N ds os.toArray (A2p G) wd (fun a'=>B1y P .any os.toArray (fun w'=>Kept (A2p G) wd w') n (fun listed' a' w'=>Region.seqB .any os.toArray (os.toArray.size-n) n listed'=true/\wpList P os.toArray Q (os.drop n) a' w') (n-ks.length) (B7J ks (Array.replicate os.length false)) a' wd) (A2Z os ks) l):
  WC P N ds (.region id os.toArray true) Q l w:=
 ⟨fun a ha=>B4h (C:=fun w'=>Kept (A2p G) { w with drawn:=w.drawn+1} w') ks n Mixed.out hB (Kept.refl _ _) ((h _ (hm.kept0 (Kept.drew w)) (hm.kept0 (Kept.drew w)).sub).run a ha)⟩
theorem A9W {n f:Nat}{listed:Array Bool} (h:WA P N ds ops Q X w n f listed tail l w):
  WV P N ds ops X w (fun a'=>B1y P .any ops (fun w'=>Kept X w w') n (fun listed' a' w'=>Region.seqB .any ops (ops.size-n) n listed'=true/\wpList P ops Q tail a' w') f listed a' w) [] l:=⟨fun a ha=>h.run a ha⟩
theorem A5c {n:Nat}{listed:Array Bool} (hs:Region.seqB .any ops (ops.size-n) n listed=true) (h:WL P N ds ops Q tail l w):WA P N ds ops Q X w0 n 0 listed tail l w:=⟨fun a ha=>⟨hs,h.run a ha⟩⟩
theorem A1H {n f i:Nat}{listed:Array Bool} (h:WU P N ds ops Q X w0 n f (listed.setIfInBounds i true) tail o l w) (hr:Region.ready .any ops listed= [i]) (hi:ops[i]?=some o:=by rfl) (hn:Nat.blt i n=true:=by rfl)
   :WA P N ds ops Q X w0 n (f+1) listed tail l w:=
 ⟨fun a ha=>⟨by rw[hr];simp,fun j hj=>by
  rw[hr]at hj;obtain rfl:j=i:=by simpa using hj
  exact⟨by simpa[A1E] using hn,h.run a ha j hi⟩⟩⟩
theorem A8G {n f i j:Nat}{o2:Oper}{listed:Array Bool} (h2:WU P N ds ops Q X w0 n f (listed.setIfInBounds j true) tail o2 l w) (hr:Region.ready .any ops listed= [i,j]) (hi:ops[i]?=some o:=by rfl) (hj:ops[j]?=some o2:=by rfl) (hn:Nat.blt i n=true:=by rfl) (hn2:Nat.blt j n=true:=by rfl)
  (h:WU P N ds ops Q X w0 n f (listed.setIfInBounds i true) tail o l w)  :WA P N ds ops Q X w0 n (f+1) listed tail l w:=
 ⟨fun a ha=>⟨by rw[hr];simp,fun k hk=>by
  rw[hr]at hk;rcases U8.1 hk with rfl|hk
  ·exact⟨by simpa[A1E] using hn,h.run a ha _ hi⟩
  ·obtain rfl:k=j:=by simpa using hk
   exact⟨by simpa[A1E] using hn2,h2.run a ha _ hj⟩⟩⟩
variable {d:Nat}{ty:TypeId}{pos:String}{af:Array Edge}{g:Option (Nat×Bool)}{t t':TypeId}{x y z:Operand}{n f:Nat}{listed:Array Bool}
theorem A5e {d:Nat}{v:Value} (hd:o.dst=some d) (hw:U7 ops l o=some true) (hN:Nat.blt d N=true) (hrun:∀a,Fits N ds l a->(execOp a.eval o).run P w=.ok (.value v) w') (hC:Kept X w0 w')
  (k:WA P N ds ops Q X w0 n f listed tail ((d,v)::l) w'):WU P N ds ops Q X w0 n f listed tail o l w:=
 ⟨fun a ha i hi=>by
  unfold uOp
  simp only[hi];rw[A27 ha hw];exact .inl ⟨v,w',hrun a ha,hC,by rw[hd];exact k.run _ (ha.put hN v)⟩⟩
theorem B2W (hd:o.dst=none) (hw:U7 ops l o=some true) (hrun:∀a,Fits N ds l a->(execOp a.eval o).run P w=.ok .skip w') (hC:Kept X w0 w')
  (k:WA P N ds ops Q X w0 n f listed tail l w'):WU P N ds ops Q X w0 n f listed tail o l w:=
 ⟨fun a ha i hi=>by
  unfold uOp
  simp only[hi];rw[A27 ha hw];exact .inr (.inr ⟨w',hrun a ha,hC,by rw[hd];exact k.run _ ha⟩)⟩
theorem B1U {pl:List (Nat×Nat)}{z:List Value} [hS:StructT P t pl z] {n' by_:Nat} [Elem P t n' by_] {I0:P7} (k:∀b w',Mem ⟨w0,X,I0⟩ I (.obj b (.cells z.toArray t (0,0))::H) w'->WA P N ds ops Q X w0 n f listed tail ((d,.pointer (some ⟨b,0,none⟩))::l) w') (hm:Mem ⟨w0,X,I0⟩ I H w) (hw:U7 ops l ⟨some d,.alloc t,ty,pos,af,g⟩=some true:=by rfl) (hN:Nat.blt d N=true:=by rfl)
   :
  WU P N ds ops Q X w0 n f listed tail ⟨some d,.alloc t,ty,pos,af,g⟩ l w:=by
 obtain⟨_,_,_,hz⟩:=hS.out;cases hi:P.info? t with
 |none=>simp[hi]at hz
 |some i=>
  simp only[hi,A1m]at hz;have hk:=Kept.alloc w (.cells z.toArray t (0,0));have hm':=hm.add (x:=.obj w.heap.size (.cells z.toArray t (0,0))) hk (heap_alloc_new w _) (fun b hb=>by simp only[HItem.blk,U4]at hb;omega);refine A5e (w':=w.alloc (.cells z.toArray t (0,0))) (v:=.pointer (some ⟨w.heap.size,0,none⟩)) rfl hw hN (fun a ha=>?_) hm'.kept (k _ _ hm')
  simp[execOp,Instr.alloc,newVar,newRow,newObj,zeroValue,typeInfo,hi,hz,Value.cells];rfl
structure WHold (p:Prop):Prop where
 out:p
theorem A0K (id:Nat) {dr:Bool} (h:WHold (WC P N ds (.region id ops dr) Q l w)):WC P N ds (.region id ops dr) Q l w:=h.out
theorem C1n {α:Type} (id:Nat) (L:α->Log) (J:α->World->Prop)
  (h:WC P N ds (.region id os.toArray true) (Exit.then (fun a w=> ∃x,Fits N ds (L x) a/\J x w) Q) l w) (k:∀x w,J x w->At N ds Q .normal (L x) w):WC P N ds (.region id os.toArray true) Q l w:=
 ⟨fun a ha=>wp_mono (h.run a ha) (fun e a w q=>by
  cases e<;>first|exact q|(obtain⟨x,hx,hj⟩:=q;exact(k x w hj).run a hx))⟩
theorem A05 {e:TypeId}{sz by_:Nat}{KV:Act->Prop} [TySlice P t e] [Elem P e sz by_] {a:Option Addr}{m cp:Nat}{i:Int}{xs:List Value} (k:∀b off,PtrI I b off e ((xs.drop (i.toNat *sz)).take sz)->WV P N ds ops X w KV os ((d,.pointer (some ⟨b,off,none⟩))::l)) (hw:U7 ops l ⟨some d,.indexAddr t x y,ty,pos,af,g⟩=some true:=by rfl) (hN:Nat.blt d N=true:=by rfl)
  (hx:ev l x=some (.slice a m cp):=by rfl) (hy:ev l y=some (.int .i64 i):=by rfl) (hr:RowI I e sz (.slice a m cp) m xs) (h0:0<=i:=by omega) (h1:i<m:=by omega)
   :
  WV P N ds ops X w KV (⟨some d,.indexAddr t x y,ty,pos,af,g⟩::os) l:=by
 obtain⟨b,off,rfl,hp⟩:=hr.at_ i.toNat (by omega);exact B2w hw hN hx hy h0 h1 (k b _ hp)
theorem B7V {i b n' by_:Nat} [Elem P t n' by_] {c vs:List Value}{e:TypeId}{dst:Option Nat}{I0:P7} (k:∀w',Mem ⟨w0,X,I0⟩ I (H.set i (.obj b (.cells vs.toArray e (0,0)))) w'->WA P N ds ops Q X w0 n f listed tail l w') (hm:Mem ⟨w0,X,I0⟩ I H w) (hd:dst=none:=by rfl) (hw:U7 ops l ⟨dst,.store t x y,ty,pos,af,g⟩=some true:=by rfl)
  (hx:ev l x=some (.pointer (some ⟨b,0,none⟩)):=by rfl) (hy:ev l y=some (.agg vs.toArray):=by rfl) (hb:H[i]?=some (.obj b (.cells c.toArray e (0,0))):=by first|exact gt0|exact gt1|exact gt2|exact gt3|exact gt4|exact gt5|exact gt6) (hn:vs.length=n':=by rfl) (ho:c.length=n':=by rfl)
  (h1:vs.all (·.oneCell')=true:=by rfl)
   :
  WU P N ds ops Q X w0 n f listed tail ⟨dst,.store t x y,ty,pos,af,g⟩ l w:=by
 subst hd;have hget:=hm.get hb;have h2:=A6k (P:=P) (t:=t) (off:=0) (.agg vs.toArray) hget (by simpa[Value.cells] using hn) (by simp[ho]) (by simpa[Value.cells] using h1);generalize hc':(c.toArray.toList.take 0++(Value.agg vs.toArray).cells.toList++c.toArray.toList.drop (0+n')).toArray=c' at h2;have e0:c'=vs.toArray:=by
  rw[<-hc',W9, <-ho];simp[Value.cells]
 rw[e0]at h2;have hk:Kept [b] w (w.setRow b vs.toArray):=Kept.setRow hget _;have hm':=hm.turn (h':=.obj b (.cells vs.toArray e (0,0))) hb (by simpa[HItem.blk] using hk) (by
  show (w.setRow b vs.toArray).heap[b]?=_
  rw[setRow_heap w b c.toArray _ e (0,0) hget]) (.inl rfl)
 refine B2W rfl hw (fun a ha=>?_) hm'.kept (k _ hm')
 simp only[execOp,Instr.storeAt,Instr.sureAddr,ha.ev hx,ha.ev hy,Sem.run_bind,Sem.run_pure,Result.andThen,h2]
end
theorem A7f {P:Program}{N:Nat}{ds:List Deferred}{Q:Exit->Act->World->Prop}{l:Log}{w:World} (id:Nat) {ops:Array Oper}{dr:Bool}{x y:Code}{α:Type} (L:α->Log) (J:α->World->Prop)
  (h:WHold (WC P N ds (.seq (.region id ops dr) x) (Exit.then (fun a w=> ∃x,Fits N ds (L x) a/\J x w) Q) l w))
  (k:∀x w,J x w->WC P N ds y Q (L x) w):WC P N ds (.seq (.seq (.region id ops dr) x) y) Q l w:=B0H id L J h.out k
theorem B2y {P:Program}{N:Nat}{ds:List Deferred}{Q:Exit->Act->World->Prop}{l:Log}{w:World} (id:Nat) {ops:Array Oper}{dr:Bool}{x y:Code}{α:Type} (L:α->Log) (J:α->World->Prop)
  (h:WHold (WC P N ds (.seq (.region id ops dr) x) (Exit.then (fun a w=> ∃x,Fits N ds (L x) a/\J x w) Q) l w))
  (k:∀x w,J x w->WC P N ds y Q (L x) w):WC P N ds (.seq (.seq (.region id ops dr) x) y) Q l w:=B0H id L J h.out k
section
variable {P:Program}{N:Nat}{ds:List Deferred}{X:List Nat}{Q:Exit->Act->World->Prop}{l:Log}{w w' w0:World}{os tail:List Oper}{ops:Array Oper}{E:Ent}{I I0:P7}{G R H:List HItem}{o:Oper}
variable {d:Nat}{ty:TypeId}{pos:String}{af:Array Edge}{g:Option (Nat×Bool)}{t t':TypeId}{x y z:Operand}{n f:Nat}{listed:Array Bool}
theorem C5m {d f':Nat}{fn:FuncId}{args:Array Value}{Post:Value->World->Prop} (hd:o.dst=some d) (hw:U7 ops l o=some true) (hN:Nat.blt d N=true)
  (hrun:∀a,Fits N ds l a->(execOp a.eval o).run P w=.ok (.enter fn args) w) (hc:Cal P fn args w Post)
  (k:∀v w',Post v w'->Kept X w0 w'/\WA P N ds ops Q X w0 n f' listed tail ((d,v)::l) w'):WU P N ds ops Q X w0 n f' listed tail o l w:=
 ⟨fun a ha i hi=>by
  unfold uOp
  simp only[hi];rw[A27 ha hw];refine .inr (.inl ⟨fn,args,hrun a ha,Calls.mono hc.run (fun e w' q=>?_)⟩)
  cases e with
  |returned v=>exact⟨v,rfl,(k v w' q).1,by rw[hd];exact(k v w' q).2.run _ (ha.put hN v)⟩
  |panicked c=>exact q.elim
  |outgrown=>exact q.elim⟩
theorem A5J {fn:FuncId} [Own P fn] {xs:List Operand}{tys:Array TypeId}{vs:List Value}{Post:Value->P7->List HItem->Prop} (hm:Mem ⟨w0,X,I0⟩ I G w)
  (hw:U7 ops l ⟨some d,.call ⟨.value (.func fn),xs.toArray,tys⟩,ty,pos,af,g⟩=some true) (hN:Nat.blt d N=true)
  (hx:evs l xs=some vs) (hp:G.Perm (H++R)) (hc:CalM P fn vs.toArray I H Post)
  (k:∀v I' H' w',Post v I' H'->Le I I'->Mem ⟨w0,X,I0⟩ I' (H'++R) w'->WA P N ds ops Q X w0 n f listed tail ((d,v)::l) w'):
  WU P N ds ops Q X w0 n f listed tail ⟨some d,.call ⟨.value (.func fn),xs.toArray,tys⟩,ty,pos,af,g⟩ l w:=
 C5m rfl hw hN (fun a ha=>by
  have:=ha.evs hx;simp[execOp,resolve,invoke,Act.eval,Deferred.ofValue,this,A2m]) (hc.run w (hm.perm hp).sub) (fun v w' ⟨I',H',h1,h2⟩=>
   have hm':=(hm.perm hp).back h2
   ⟨hm'.kept,k v I' H' w' h1 h2.le hm'⟩)
end
def B2C (es:A6t) (s:List UInt8) (v:Value):A6t:=match es.findIdx? (fun p=>decide (p.1=s)) with
 |some i=>es.set i (s,v)
 |none=>es++ [(s,v)]
theorem B7p (es:A6t) (i:Nat) (s:List UInt8) (v:Value):(A4y es 0).toArray.modify i (fun e=> { e with key:=str s,val:=v})=(A4y (es.set i (s,v)) 0).toArray:=by
 apply A6I
 intro j;rw[A2S];simp only[A4y,A2R,A0e,A6H,A2f];by_cases h:i=j
 ·subst h
  rw[if_pos rfl,if_pos rfl];by_cases h2:i<es.length
  ·rw[if_pos h2,G6 h2];rfl
  ·rw[if_neg h2,A08 (by omega)];rfl
 ·rw[if_neg h,if_neg h]
theorem C4c {es:A6t}{s:List UInt8}{v:Value}{p:List UInt8×Value} (h:p∈B2C es s v):p∈es\/p=(s,v):=by
 rw[B2C]at h;split at h
 ·rcases List.mem_or_eq_of_mem_set h with h|h
  ·exact .inl h
  ·exact .inr h
 ·rcases Z9.1 h with h|h
  ·exact .inl h
  ·exact .inr (A0B.1 h)
theorem C1Z {es:A6t}{s:List UInt8}{v:Value} (u:List UInt8):u∈(B2C es s v).map (·.1)↔u∈es.map (·.1)\/u=s:=by
 rw[B2C];cases hf:es.findIdx? (fun p=>decide (p.1=s)) with
 |some i=>
  obtain⟨hi,hs,_⟩:=A2q.1 hf;have hs':es[i].1=s:=by simpa using hs
  have:(es.set i (s,v)).map (·.1)=es.map (·.1):=by
   apply A3X
   intro j;simp only[A0e,A2f];split
   ·rename_i h
    subst h;rw[G6 hi];simp[hs']
   ·rfl
  dsimp only
  rw[this];constructor
  ·exact .inl
  ·rintro(h|h)
   ·exact h
   ·subst h;rw[<-hs'];exact A5u (O6 hi)
 |none=>simp
theorem B9B {es:A6t}{s:List UInt8}{v:Value} (h:(es.map (·.1)).Nodup):((B2C es s v).map (·.1)).Nodup:=by
 rw[B2C];cases hf:es.findIdx? (fun p=>decide (p.1=s)) with
 |some i=>
  obtain⟨hi,hs,_⟩:=A2q.1 hf;have hs':es[i].1=s:=by simpa using hs
  have:(es.set i (s,v)).map (·.1)=es.map (·.1):=by
   apply A3X
   intro j;simp only[A0e,A2f];split
   ·rename_i h
    subst h;rw[G6 hi];simp[hs']
   ·rfl
  dsimp only
  rw[this];exact h
 |none=>
  dsimp only
  rw[Y8,A5z];refine⟨h,by simp,fun a h1 b h2=>?_⟩
  simp only[X7,List.map_nil,A0B]at h2;subst h2;rintro rfl;obtain⟨p,hp,hps⟩:=A0x.1 h1;have:=A3P.1 hf p hp;simp[hps]at this
section
variable {P:Program}{N:Nat}{ds:List Deferred}{Q:Exit->Act->World->Prop}{l:Log}{w:World}{ops:Array Oper}{os:List Oper}
variable {d:Nat}{ty:TypeId}{pos:String}{af:Array Edge}{g:Option (Nat×Bool)}{t t':TypeId}{x y z:Operand}{E:Ent}{I:P7}{H:List HItem}
theorem C82 {kt et:TypeId} [TyMap P t kt et] [TyStr P kt] {i b:Nat}{es:A6t}{s:List UInt8}{v:Value}{dst:Option Nat} (hm:Mem E I H w) (hd:dst=none) (hw:U7 ops l ⟨dst,.insert t x y z,ty,pos,af,g⟩=some true)
  (hx:ev l x=some (.map (some b))) (hy:ev l y=some (str s)) (hz:ev l z=some v) (hi:H[i]?=some (.mp b es)) (hn:(es.map (·.1)).Nodup)
  (k:∀w',Mem E I (H.set i (.mp b (B2C es s v))) w'->WL P N ds ops Q os l w'):
  WL P N ds ops Q (⟨dst,.insert t x y z,ty,pos,af,g⟩::os) l w:=by
 cases hf:es.findIdx? (fun p=>decide (p.1=s)) with
 |none=>
  have hs:(es.map (·.1)).contains s=false:=by
   rw[<-Bool.not_eq_true,A6F];intro h1;obtain⟨p,hp,hps⟩:=A0x.1 h1;have:=A3P.1 hf p hp;simp[hps]at this
  have e:B2C es s v=es++ [(s,v)]:=by rw[B2C,hf]
  rw[e]at k;exact B7M hm hd hw hx hy hz hi hn hs k
 |some j=>
  obtain⟨hj,hsj,_⟩:=A2q.1 hf;have hsj':es[j].1=s:=by simpa using hsj
  have e:B2C es s v=es.set j (s,v):=by rw[B2C,hf]
  rw[e]at k;have hget:=hm.get hi;subst hd;refine B5A hw fun a ha=>?_
  have h1:=run_underlying (P:=P) (w:=w) (TyMap.out (P:=P) (t:=t));have hk:=TyStr.out (P:=P) (t:=kt);have h2:=A9s (P:=P) (w:=w) hk s es 0;have h3:=A8r (P:=P) (w:=w) hk s false;have h4:=MapKept.run_getObj_map (P:=P) hget;rw[hf]at h2;have hg:es[j]?=some es[j]:=G6 hj;simp only[A1m,hg,A1T,W9]at h2;have h5:=fun o'=>MapKept.run_setObj_map (P:=P) o' hget
  have hkey:(A4y es 0).toArray[j]?=some { key:=str s,val:=es[j].2,born:=j}:=by
   simp[A4y,hg,hsj']
  have h6:(Instr.keyThatStays (str s) (str s)).run P w=.ok (str s) w:=by
   have:Instr.sameBits 10000 (str s) (str s)=true:=(MapKept.bytes_beq _ _).2 rfl;simp[Instr.keyThatStays,this]
  have hb:=A2w hget;have hkept:Kept [b] w { w with heap:=w.heap.setIfInBounds b (.map ((A4y es 0).toArray.modify j (fun e=> { e with key:=str s,val:=v})) es.length)}:=
   ⟨rfl,rfl,rfl,by simp,fun i hi hx=>by
    have:b≠i:=by rintro rfl;simp at hx
    simp[A5p this]⟩
  have hm':=hm.turn (h':=.mp b (es.set j (s,v))) hi (by simpa[HItem.blk] using hkept) (by
   show HItem.ok _ _
   have e2:=B7p es j s v;simp only[HItem.ok, <-e2,A2n];simp[hb]) (.inl rfl)
  have h7:=(k _ hm').run _ ha;simp only[Oper.wp,execOp,Instr.mapUpdate,ha.ev hx,ha.ev hy,ha.ev hz,Sem.run_bind,h1,Result.andThen_ok,h4,h3,h2,hkey,A1T,Option.getD_some,h6,h5,Oper.upon_skip,Act.put,Sem.run_pure];simpa only[List.modify_toArray] using h7
theorem B6F {dst:Option Nat} (h:WL P N ds ops Q (⟨dst,.insert t x y z,ty,pos,af,g⟩::os) l w):WL P N ds ops Q (⟨dst,.mapUpdate t x y z,ty,pos,af,g⟩::os) l w:=⟨fun a ha=>h.run a ha⟩
end
section
variable {P:Program}{N:Nat}{ds:List Deferred}{Q:Exit->Act->World->Prop}{K:Act->World->Prop}{l:Log}{w:World}{ops:Array Oper}{os:List Oper}
variable {d:Nat}{ty:TypeId}{pos:String}{af:Array Edge}{g:Option (Nat×Bool)}{t:TypeId}{x y:Operand}{E:Ent}{I:P7}{H:List HItem}
end
abbrev A7o (k:Int):Value:=.int .i64 k
abbrev A1S:=List (Int×Value)
def A2A (es:A1S) (n:Nat):List MapEntry:=(es.zipIdx n).map (fun p=> { key:=A7o p.1.1,val:=p.1.2,born:=p.2})
theorem B4S (s:Int):∀(es:A1S) (n m:Nat),Instr.findNow (.int .i64) (A7o s) (A2A es n) m=some ((es.findIdx? (fun p=>decide (p.1=s))).bind (fun i=>(es[i]?).map (fun p=>(m+i,p.2))))
 | [],n,m=>rfl
 |(u,v)::es,n,m=>by
  have ih:=B4S s es (n+1) (m+1);simp only[A2A,List.zipIdx_cons,X7,Instr.findNow,Instr.sameNow,if_true]at ih |-;have e1:(s==u)=decide (u=s):=by
   rw[A2K];constructor
   ·intro h
    exact decide_eq_true (by simpa using h:s=u).symm
   ·intro h
    rw[of_decide_eq_true h];simp
  rw[e1,A6L];cases hd:decide (u=s) with
  |true=>simp
  |false=>
   simp only
   rw[ih]
   congr 1
   cases hf:es.findIdx? (fun p=>decide (p.1=s)) with
   |none=>simp
   |some i=>simp[A3Q,Nat.add_left_comm]
section
variable {P:Program}{N:Nat}{ds:List Deferred}{Q:Exit->Act->World->Prop}{l l':Log}{w w':World}{ops:Array Oper}{os:List Oper}{o:Oper}
variable {d:Nat}{ty:TypeId}{pos:String}{af:Array Edge}{g:Option (Nat×Bool)}{t t':TypeId}{x y z:Operand}{E:Ent}{I:P7}{H:List HItem}
def B1T (es:A1S) (s:Int) (z:Value):Value:=((es.find? (fun p=>decide (p.1=s))).map (·.2)).getD z
theorem C1G (es:A1S) (s:Int):(es.findIdx? (fun p=>decide (p.1=s))).bind (fun i=>(es[i]?).map (·.2))=(es.find? (fun p=>decide (p.1=s))).map (·.2):=by
 induction es with
 |nil=>rfl
 |cons p es ih=>
  rw[A6L,A3N];cases hd:decide (p.1=s) with
  |true=>simp
  |false=>
   simp only[A6K,if_false];rw[<-ih];cases es.findIdx? (fun p=>decide (p.1=s))<;>simp
theorem B1g {kt:TypeId} (hk:P.underlying kt=some (.int .i64)) (s:Int) (es:A1S) (n:Nat):
  (Instr.findKey kt (A7o s) (A2A es n)).run P w=.ok ((es.findIdx? (fun p=>decide (p.1=s))).bind (fun i=>(es[i]?).map (fun p=>(0+i,p.2)))) w:=by
 have h1:=run_underlying (P:=P) (w:=w) hk;simp only[Instr.findKey,Sem.run_bind,h1,Result.andThen_ok,B4S];simp
theorem B0f {kt:TypeId} (hk:P.underlying kt=some (.int .i64)) (s:Int) (b:Bool):(Instr.checkKey b 10000 kt (A7o s)).run P w=.ok () w:=by
 have h1:=run_underlying (P:=P) (w:=w) hk;show (Instr.checkKey b (9999+1) kt (A7o s)).run P w=.ok () w
 rw[Instr.checkKey];simp[h1]
theorem A9u {kt et:TypeId} [TyMap P t kt et] [TyInt P kt .i64] {b:Nat}{es:A1S}{s:Int}{zv:Value}{a:Act} (ha:Fits N ds l a)
  (hx:ev l x=some (.map (some b))) (hy:ev l y=some (A7o s)) (hm:w.heap[b]?=some (.map (A2A es 0).toArray es.length)) (hz:∀w,(zeroValue et).run P w=.ok zv w):
  (execOp a.eval ⟨some d,.lookup t x y false,ty,pos,af,g⟩).run P w=.ok (.value (B1T es s zv)) w:=by
 have h1:=run_underlying (P:=P) (w:=w) (TyMap.out (P:=P) (t:=t));have hk:=TyInt.out (P:=P) (t:=kt);have h2:=B1g (P:=P) (w:=w) hk s es 0;have h3:=fun b=>B0f (P:=P) (w:=w) hk s b
 have h4:=MapKept.run_getObj_map (P:=P) hm;have h5:=C1G es s;rw[B1T, <-h5];cases hf:es.findIdx? (fun p=>decide (p.1=s)) with
 |none=>
  rw[hf]at h2;simp[execOp,Instr.lookup,ha.ev hx,ha.ev hy,h1,h4,h3,h2,hz]
 |some i=>
  rw[hf]at h2;have hi:i<es.length:=by
   have:=A2q.1 hf;exact this.1
  have hg:es[i]?=some es[i]:=G6 hi;simp only[A1m,hg,A1T]at h2;simp[execOp,Instr.lookup,ha.ev hx,ha.ev hy,h1,h4,h3,h2,hg]
abbrev HItem.mz (b:Nat) (es:A1S):HItem:=.obj b (.map (A2A es 0).toArray es.length)
def A50 (es:A1S) (s:Int) (v:Value):A1S:=match es.findIdx? (fun p=>decide (p.1=s)) with
 |some i=>es.set i (s,v)
 |none=>es++ [(s,v)]
theorem B0Y (es:A1S) (i:Nat) (s:Int) (v:Value):(A2A es 0).toArray.modify i (fun e=> { e with key:=A7o s,val:=v})=(A2A (es.set i (s,v)) 0).toArray:=by
 apply A6I
 intro j;rw[A2S];simp only[A2A,A2R,A0e,A6H,A2f];by_cases h:i=j
 ·subst h
  rw[if_pos rfl,if_pos rfl];by_cases h2:i<es.length
  ·rw[if_pos h2,G6 h2];rfl
  ·rw[if_neg h2,A08 (by omega)];rfl
 ·rw[if_neg h,if_neg h]
theorem B7U {es:A1S}{s:Int}{v:Value} (h:(es.map (·.1)).Nodup):((A50 es s v).map (·.1)).Nodup:=by
 rw[A50];cases hf:es.findIdx? (fun p=>decide (p.1=s)) with
 |some i=>
  obtain⟨hi,hs,_⟩:=A2q.1 hf;have hs':es[i].1=s:=by simpa using hs
  have:(es.set i (s,v)).map (·.1)=es.map (·.1):=by
   apply A3X
   intro j;simp only[A0e,A2f];split
   ·rename_i h
    subst h;rw[G6 hi];simp[hs']
   ·rfl
  dsimp only
  rw[this];exact h
 |none=>
  dsimp only
  rw[Y8,A5z];refine⟨h,by simp,fun a h1 b h2=>?_⟩
  simp only[X7,List.map_nil,A0B]at h2;subst h2;rintro rfl;obtain⟨p,hp,hps⟩:=A0x.1 h1;have:=A3P.1 hf p hp;simp[hps]at this
def A8M (es:A1S) (s:Int):Option Value:=(es.find? (fun p=>decide (p.1=s))).map (·.2)
theorem B5Y {es:A1S}{s:Int}{v:Value} (n:Int) (h:A8M es s=none):A8M (es++ [(s,v)]) n=if n=s then some v else A8M es n:=by
 simp only[A8M]at h |-;rw[List.find?_append];by_cases e:n=s
 ·subst e
  rw[if_pos rfl,Option.map_eq_none_iff.1 h];simp
 ·rw[if_neg e]
  cases hf:es.find? (fun p=>decide (p.1=n)) with
  |some p=>rfl
  |none=>simp[Ne.symm e]
theorem B47:∀ {es:A1S}{i:Nat}{s:Int}{v:Value} (n:Int),(es.map (·.1)).Nodup->(∃c,es[i]?=some (s,c))->A8M (es.set i (s,v)) n=if n=s then some v else A8M es n
 | [],i,s,v,n,_,h=>by obtain⟨_,h⟩:=h;simp at h
 |(a,c)::es,0,s,v,n,_,h=>by
  obtain⟨_,h⟩:=h;simp only[A0z,U4,Prod.mk.injEq]at h;obtain⟨rfl,_⟩:=h;simp only[A8M,A8b,A3N];by_cases e:n=a
  ·subst e;simp
  ·rw[if_neg e,decide_eq_false (Ne.symm e)]
 |(a,c)::es,i+1,s,v,n,hn,h=>by
  obtain⟨c',h⟩:=h;rw[A0w]at h;rw[X7,List.nodup_cons]at hn;have ih:=B47 (v:=v) n hn.2 ⟨c',h⟩;have has:a≠s:=by
   rintro rfl;exact hn.1 (A5u (f:=(·.1)) (A0J h))
  simp only[A8M,A8a,A3N]at ih |-;by_cases e:a=n
  ·subst e
   rw[decide_eq_true rfl,if_neg has]
  ·rw[decide_eq_false e]
   exact ih
theorem B9y {es:A1S}{s:Int}{v:Value} (n:Int) (hn:(es.map (·.1)).Nodup):A8M (A50 es s v) n=if n=s then some v else A8M es n:=by
 rw[A50];cases hf:es.findIdx? (fun p=>decide (p.1=s)) with
 |some i=>
  obtain⟨hi,hs,_⟩:=A2q.1 hf;have hs':es[i].1=s:=by simpa using hs
  exact B47 n hn ⟨es[i].2,by rw[G6 hi, <-hs']⟩
 |none=>
  refine B5Y n ?_
  rw[A3P]at hf;simp only[A8M,Option.map_eq_none_iff,List.find?_eq_none];intro p hp;simpa using hf p hp
end
section
variable {P:Program}{N:Nat}{ds:List Deferred}{Q:Exit->Act->World->Prop}{K:Act->World->Prop}{KV:Act->Prop}{l:Log}{w w0:World}{ops:Array Oper}{os os' tail:List Oper}{X:List Nat}
variable {d:Nat}{ty:TypeId}{pos:String}{af:Array Edge}{g:Option (Nat×Bool)}{t:TypeId}{x y z:Operand}{E:Ent}{I I0:P7}{H G R:List HItem}{n f:Nat}{listed:Array Bool}
theorem A8g {kt et:TypeId} [TyMap P t kt et] [TyInt P kt .i64] {i b:Nat}{es:A1S}{s:Int}{zv:Value} (hm:Mem E I H w) (hw:U7 ops l ⟨some d,.lookup t x y false,ty,pos,af,g⟩=some true) (hN:Nat.blt d N=true)
  (hx:ev l x=some (.map (some b))) (hy:ev l y=some (A7o s)) (hi:H[i]?=some (.mz b es)) (hz:∀w,(zeroValue et).run P w=.ok zv w)
  (k:WQ P N ds ops w K os ((d,B1T es s zv)::l)):WQ P N ds ops w K (⟨some d,.lookup t x y false,ty,pos,af,g⟩::os) l:=by
 have hg:=hm.get hi;exact A0Z rfl hw hN (fun w' hkq a ha=>A9u ha hx hy (by rw[hkq.blk b (A2w hg) (by simp)];exact hg) hz) k
theorem B3K {kt et:TypeId} [TyMap P t kt et] [TyInt P kt .i64] {i b:Nat}{es:A1S}{s:Int}{zv:Value} (hR:Mem E I (G++R) w) (hw:U7 ops l ⟨some d,.lookup t x y false,ty,pos,af,g⟩=some true) (hN:Nat.blt d N=true)
  (hx:ev l x=some (.map (some b))) (hy:ev l y=some (A7o s)) (hi:R[i]?=some (.mz b es)) (hz:∀w,(zeroValue et).run P w=.ok zv w)
  (k:WV P N ds ops (A2p G) w KV os ((d,B1T es s zv)::l)):WV P N ds ops (A2p G) w KV (⟨some d,.lookup t x y false,ty,pos,af,g⟩::os) l:=by
 have hg:=hR.right.get hi;have hnG:=hR.notG hi rfl;exact A12 rfl hw hN (fun w' hkq a ha=>A9u ha hx hy (by rw[hkq.blk b (A2w hg) hnG];exact hg) hz) k
theorem B6k {kt et:TypeId} [TyMap P t kt et] [TyInt P kt .i64] {b:Nat}{es:A1S}{s:Int}{zv:Value} (hb:w.heap[b]?=some (.map (A2A es 0).toArray es.length)) (_:(es.map (·.1)).Nodup) (hz:∀w,(zeroValue et).run P w=.ok zv w):
  ∃(es1:A1S) (j:Nat) (u:Value) (w':World),(Instr.mapEntry t (.map (some b)) (A7o s)).run P w=.ok (.tuple #[u,.int .i64 (j:Int)]) w'/\w'.heap[b]?=some (.map (A2A es1 0).toArray es1.length)/\Kept [b] w w'/\es1[j]?=some (s,u)/\∀v,es1.set j (s,v)=A50 es s v:=by
 have h1:=run_underlying (P:=P) (w:=w) (TyMap.out (P:=P) (t:=t));have hk:=TyInt.out (P:=P) (t:=kt);have h2:=B1g (P:=P) (w:=w) hk s es 0;have h3:=B0f (P:=P) (w:=w) hk s false;have h4:=MapKept.run_getObj_map (P:=P) hb;have h5:=fun o'=>MapKept.run_setObj_map (P:=P) o' hb
 have hlt:=A2w hb;cases hf:es.findIdx? (fun p=>decide (p.1=s)) with
 |none=>
  rw[hf]at h2;have e1:(A2A (es++ [(s,zv)]) 0).toArray=(A2A es 0).toArray.push { key:=A7o s,val:=zv,born:=es.length}:=by
   simp[A2A,List.zipIdx_append]
  refine⟨es++ [(s,zv)],es.length,zv, { w with heap:=w.heap.setIfInBounds b (.map ((A2A es 0).toArray.push { key:=A7o s,val:=zv,born:=es.length}) (es.length+1))},?_,?_,⟨rfl,rfl,rfl,by simp,fun i hi hx=>?_⟩,by simp,fun v=>?_⟩
  ·simp only[Instr.mapEntry,Sem.run_bind,h1,Result.andThen_ok,h4,h3,h2,Option.bind_none,hz,h5,Sem.run_pure]
   rfl
  ·rw[e1,E9]
   simp[hlt]
  ·have:b≠i:=by rintro rfl;simp at hx
   simp[A5p this]
  ·rw[A50,hf]
   simp
 |some j=>
  obtain⟨hj,hsj,_⟩:=A2q.1 hf;have hsj':es[j].1=s:=by simpa using hsj
  rw[hf]at h2;have hg:es[j]?=some es[j]:=G6 hj;simp only[A1m,hg,A1T,W9]at h2;have hkey:(A2A es 0).toArray[j]?=some { key:=A7o s,val:=es[j].2,born:=j}:=by
   simp[A2A,hg,hsj']
  have h6:(Instr.keyThatStays (A7o s) (A7o s)).run P w=.ok (A7o s) w:=by
   have:Instr.sameBits 10000 (A7o s) (A7o s)=true:=by simp[Instr.sameBits]
   simp[Instr.keyThatStays,this]
  have e2:=B0Y es j s es[j].2;have e3:es.set j (s,es[j].2)=es:=by
   apply A3X
   intro i;rw[A2f];by_cases e:j=i
   ·subst e
    rw[if_pos rfl,if_pos hj,hg, <-hsj']
   ·rw[if_neg e]
  have e4:((A2A es 0).toArray.modify j fun e=> { e with key:=A7o s})=(A2A es 0).toArray:=by
   rw[<-A8d];apply A3X
   intro i;rw[A78,A78,A2S];by_cases e:j=i
   ·subst e
    rw[if_pos rfl,hkey];rfl
   ·rw[if_neg e]
  refine⟨es,j,es[j].2, { w with heap:=w.heap.setIfInBounds b (.map (A2A es 0).toArray es.length)},?_,by simp[hlt],⟨rfl,rfl,rfl,by simp,fun i hi hx=>?_⟩,by rw[hg, <-hsj'],fun v=>by rw[A50,hf]⟩
  ·simp only[Instr.mapEntry,Sem.run_bind,h1,Result.andThen_ok,h4,h3,h2,hkey,A1T,Option.getD_some,h6,h5,Sem.run_pure]
   rw[e4]
   rfl
  ·have:b≠i:=by rintro rfl;simp at hx
   simp[A5p this]
theorem B5Z {kt et:TypeId} [TyMap P t kt et] [TyInt P kt .i64] {i b:Nat}{es:A1S}{s:Int}{zv:Value} (hm:Mem ⟨w0,X,I0⟩ I H w) (hw:U7 ops l ⟨some d,.mapEntry t x y,ty,pos,af,g⟩=some true) (hN:Nat.blt d N=true)
  (hx:ev l x=some (.map (some b))) (hy:ev l y=some (A7o s)) (hi:H[i]?=some (.mz b es)) (hn:(es.map (·.1)).Nodup) (hz:∀w,(zeroValue et).run P w=.ok zv w)
  (k:∀(es1:A1S) (j:Nat) (u:Value) (w':World),es1[j]?=some (s,u)->(∀v,es1.set j (s,v)=A50 es s v)->Mem ⟨w0,X,I0⟩ I (H.set i (.mz b es1)) w'->WA P N ds ops Q X w0 n f listed tail ((d,.tuple #[u,.int .i64 (j:Int)])::l) w'):
  WU P N ds ops Q X w0 n f listed tail ⟨some d,.mapEntry t x y,ty,pos,af,g⟩ l w:=by
 obtain⟨es1,j,u,w',hr,hh,hk,hj,hp⟩:=B6k (P:=P) (t:=t) (s:=s) (hm.get hi) hn hz;have hm':=hm.turn (h':=.mz b es1) hi (by simpa[HItem.blk] using hk) hh (.inl rfl);refine A5e (w':=w') rfl hw hN (fun a ha=>?_) hm'.kept (k es1 j u w' hj hp hm')
 simp[execOp,ha.ev hx,ha.ev hy,hr]
theorem C0l {m:Nat}{vs:Array Value}{v:Value} (hC:Kept X w0 w) (hw:U7 ops l ⟨some d,.extract x m,ty,pos,af,g⟩=some true) (hN:Nat.blt d N=true)
  (hx:ev l x=some (.tuple vs)) (hv:vs[m]?=some v) (k:WA P N ds ops Q X w0 n f listed tail ((d,v)::l) w):WU P N ds ops Q X w0 n f listed tail ⟨some d,.extract x m,ty,pos,af,g⟩ l w:=
 A5e (w':=w) rfl hw hN (fun a ha=>by simp[execOp,ha.ev hx,Instr.extract,hv]) hC k
theorem C22 (es:A1S) {j:Nat} (hj:j<es.length):(A2A es 0).toArray.findIdx? (fun e=>(e.born:Int)==(j:Int))=some j:=by
 rw[List.findIdx?_toArray,A2q];have hl:(A2A es 0).length=es.length:=by simp[A2A]
 refine⟨by omega,by simp[A2A],fun i hi=>?_⟩
 simp[A2A];omega
theorem B3J {i b j:Nat}{es es1:A1S}{s:Int}{u v:Value}{dst:Option Nat} (hm:Mem ⟨w0,X,I0⟩ I H w) (hd:dst=none) (hw:U7 ops l ⟨dst,.entryStore t x y z,ty,pos,af,g⟩=some true)
  (hx:ev l x=some (.map (some b))) (hy:ev l y=some (.int .i64 (j:Int))) (hz:ev l z=some v) (hi:H[i]?=some (.mz b es1)) (hj:es1[j]?=some (s,u)) (hp:∀v,es1.set j (s,v)=A50 es s v)
  (k:∀w',Mem ⟨w0,X,I0⟩ I (H.set i (.mz b (A50 es s v))) w'->WA P N ds ops Q X w0 n f listed tail l w'):
  WU P N ds ops Q X w0 n f listed tail ⟨dst,.entryStore t x y z,ty,pos,af,g⟩ l w:=by
 subst hd;have hb:=hm.get hi;have hlt:=A2w hb;have h4:=MapKept.run_getObj_map (P:=P) hb;have h5:=fun o'=>MapKept.run_setObj_map (P:=P) o' hb
 have hjl:=(A0y.1 hj).1;have h6:=C22 es1 hjl;have e1:((A2A es1 0).toArray.modify j fun e=> { e with val:=v})=(A2A (A50 es s v) 0).toArray:=by
  rw[<-hp v, <-B0Y es1 j s v, <-A8d];apply A3X
  intro i;rw[A78,A78,A2S,A2S];by_cases e:j=i
  ·subst e
   rw[if_pos rfl,if_pos rfl];simp[A2A,hj]
  ·rw[if_neg e,if_neg e]
 have hl:es1.length=(A50 es s v).length:=by rw[<-hp v,A2n]
 have hkept:Kept [b] w { w with heap:=w.heap.setIfInBounds b (.map (A2A (A50 es s v) 0).toArray (A50 es s v).length)}:=
  ⟨rfl,rfl,rfl,by simp,fun i hi hx=>by
   have:b≠i:=by rintro rfl;simp at hx
   simp[A5p this]⟩
 have hm':=hm.turn (h':=.mz b (A50 es s v)) hi (by simpa[HItem.blk] using hkept) (by
  show HItem.ok _ _
  simp[HItem.ok,hlt]) (.inl rfl)
 rw[hl]at h4;refine B2W rfl hw (fun a ha=>?_) hm'.kept (k _ hm')
 simp[execOp,Instr.entryStore,ha.ev hx,ha.ev hy,ha.ev hz,h4,asInt,asIntOf,h6,e1,h5]
end
section
variable {P:Program}{N:Nat}{ds:List Deferred}{Q:Exit->Act->World->Prop}{l l':Log}{w w':World}{ops:Array Oper}{os:List Oper}
variable {d:Nat}{ty:TypeId}{pos:String}{af:Array Edge}{g:Option (Nat×Bool)}{t t':TypeId}{x y z:Operand}
variable {E:Ent}{I I':P7}{H H' R:List HItem}
theorem Mem.rowAddr {e:TypeId}{sz n cap:Nat}{a:Option Addr}{xs:List Value} (hm:Mem E I (.row (.slice a n cap) e sz n xs::H) w) (hn:0<n):∃b,a=some ⟨b,0,none⟩:=by
 obtain⟨b,cp,cur,hv,_⟩:=hm.openRow hn;injection hv with h1 _ _
 exact⟨b,h1⟩
theorem Mem.rowLen {e:TypeId}{sz n:Nat}{v:Value}{xs:List Value} (hm:Mem E I (.row v e sz n xs::H) w):xs.length=n *sz:=(hm.ok _ Q5).1
theorem A24 [TyOne P t] {b off n cap sz:Nat}{e:TypeId}{xs:List Value}{v:Value} (hm:Mem E I (.row (.slice (some ⟨b,0,none⟩) n cap) e sz n xs::H) w) (hw:U7 ops l ⟨some d,.load t x,ty,pos,af,g⟩=some true) (hN:Nat.blt d N=true)
  (hx:ev l x=some (.pointer (some ⟨b,off,none⟩))) (hc:xs[off]?=some v) (k:WL P N ds ops Q os ((d,v)::l) w):
  WL P N ds ops Q (⟨some d,.load t x,ty,pos,af,g⟩::os) l w:=by
 have h0:=hm.rowLen;have hlt:off<xs.length:=(A0y.1 hc).1;rcases A5v n with hn|hn
 ·subst hn;rw[A1o]at h0;omega
 obtain⟨b',cp,cur,hv,hm2,hcp,hcm,hs,ht⟩:=hm.openRow hn;injection hv with h1 _ _
 injection h1 with h1
 injection h1 with h1
 subst h1;refine A46 hw hN hx (hm2.ok _ Q5) ?_ k
 rw[<-ht,A1z]at hc;split at hc
 ·simpa using hc
 ·cases hc
theorem B3I {by_:Nat} [Elem P t 1 by_] {b off n cap sz:Nat}{e:TypeId}{xs:List Value}{v:Value}{dst:Option Nat} (hm:Mem E I (.row (.slice (some ⟨b,0,none⟩) n cap) e sz n xs::H) w) (hd:dst=none) (hw:U7 ops l ⟨dst,.store t x y,ty,pos,af,g⟩=some true)
  (hx:ev l x=some (.pointer (some ⟨b,off,none⟩))) (hy:ev l y=some v) (hn1:v.cells.toList= [v]) (h1:v.oneCell'=true) (ho:off<xs.length)
  (k:∀w',Mem E I (.row (.slice (some ⟨b,0,none⟩) n cap) e sz n (xs.set off v)::H) w'->WL P N ds ops Q os l w'):
  WL P N ds ops Q (⟨dst,.store t x y,ty,pos,af,g⟩::os) l w:=by
 have h0:=hm.rowLen;rcases A5v n with hn|hn
 ·subst hn;rw[A1o]at h0;omega
 obtain⟨b',cp,cur,hv,hm2,hcp,hcm,hs,ht⟩:=hm.openRow hn;injection hv with e1 _ e3
 injection e1 with e1
 injection e1 with e1
 subst e1;subst e3;obtain⟨cL,rfl⟩:∃cL:List Value,cur=cL.toArray:=⟨cur.toList,by simp⟩;have hs':cL.length=cap *sz:=by simpa using hs
 have ht':cL.take (n *sz)=xs:=by simpa using ht
 have hle:n *sz<=cap *sz:=A3U _ hcp;refine O8 (i:=0) hm2 hd hw hx hy rfl hn1 (by rw[A1E];omega) h1 (fun w2 hm3=>k w2 ?_)
 have hm4:Mem E I (.obj b (.cells (cL.set off v).toArray e (0,0))::H) w2:=hm3;exact hm4.shutRow hcp hcm (by simpa using hs') (by simp only;rw[List.take_set,ht'])
end
theorem B4n {r:HItem}{A B C D:List HItem}:(r::(A++((B++C)++D))).Perm (B++(r::(A++(C++D)))):=by
 have h1:(A++((B++C)++D)).Perm (B++(A++(C++D))):=by
  rw[O4];exact(A6p A B (C++D))
 exact(h1.cons r).trans (List.perm_middle (l₁:=B) (a:=r) (l₂:=A++(C++D))).symm
theorem C6k {r:HItem}{A B C D:List HItem}:(B++(r::(A++(C++D)))).Perm (C++(r::(A++(B++D)))):=by
 have h1:(B++(r::(A++(C++D)))).Perm (r::(B++(A++(C++D)))):=List.perm_middle;have h2:(B++(A++(C++D))).Perm (C++(A++(B++D))):=by
  refine(A6p B A (C++D)).trans ?_
  refine((A6p B C D).append_left A).trans ?_
  exact A6p A C (B++D)
 exact h1.trans ((h2.cons r).trans (List.perm_middle (l₁:=C) (a:=r) (l₂:=A++(B++D))).symm)
theorem C7V {r:HItem}{A B C D:List HItem}:(C++(r::(A++(B++D)))).Perm (r::(A++((B++C)++D))):=
 C6k.trans B4n.symm
section
variable {P:Program}{N:Nat}{ds:List Deferred}{Q:Exit->Act->World->Prop}{K:Act->World->Prop}{KV:Act->Prop}{l l':Log}{w w' w0:World}{ops:Array Oper}{os:List Oper}
variable {d:Nat}{ty:TypeId}{pos:String}{af:Array Edge}{g:Option (Nat×Bool)}{t t':TypeId}{x y z:Operand}
variable {E:Ent}{I I':P7}{H H' R G:List HItem}
class Zero1 (P:Program) (e:TypeId) (v:Value):Prop where out:(P.info? e).bind (·.zero)=some v/\v.cells= #[v]
theorem B2h {e:TypeId}{by_ n:Nat} (zv:Value) [TySlice P t e] [Elem P e 1 by_] (hz0:Zero1 P e zv) (hm:Mem E I H w) (hw:U7 ops l ⟨some d,.makeSlice t x y,ty,pos,af,g⟩=some true) (hN:Nat.blt d N=true)
  (hx:ev l x=some (.int .i64 n)) (hy:ev l y=some (.int .i64 n)) (hn:n<=1000000) (hby:Nat.ble by_ 1024=true)
  (k:∀b w',Mem E I (.row (.slice (some ⟨b,0,none⟩) n n) e 1 n (List.replicate n zv)::H) w'->WL P N ds ops Q os ((d,.slice (some ⟨b,0,none⟩) n n)::l) w'):
  WL P N ds ops Q (⟨some d,.makeSlice t x y,ty,pos,af,g⟩::os) l w:=by
 obtain⟨i,z,hi',hz,hs',hb',hzc,hpos⟩:=Elem.out (P:=P) (e:=e);obtain⟨h1,h2⟩:=hz0.out;rw[hi',A1m,hz]at h1;obtain rfl:=A0V h1;have hby':=A2T hby;have hbn:by_ *n<=1024 *1000000:=Nat.mul_le_mul hby' hn;have hr:=run_makeSlice (P:=P) (w:=w) t e i z (TySlice.out (P:=P) (t:=t)) hi' hz .i64 .i64 n n (by omega) (by omega) (by rw[hs',A1j];omega)
  (by rw[hb'];have:((by_ *n:Nat):Int)<=281474976710656:=(by omega);simpa using this) (by omega)
 rw[hs',h2,A1j,A2M]at hr;have hmc:madeCells #[z] n=(List.replicate n z).toArray:=by
  apply A8d.1
  rw[toList_madeCells_one]
 rw[hmc]at hr;refine U6 (w':=w.alloc (.cells (List.replicate n z).toArray e (0,0))) (v:=.slice (some ⟨w.heap.size,0,none⟩) n n) rfl hw hN (fun a ha=>?_)
  (k w.heap.size _ (hm.add (Kept.alloc w _) ⟨by simp,.inr ⟨w.heap.size,n,_,rfl,H7 _,heap_alloc_new w _,H6 _,by unfold maxLen;omega,by simp,by simp⟩⟩ (fun b' hb'=>?_)))
 ·simp only[execOp,ha.ev hx,ha.ev hy]
  simp[hr]
 ·simp only[HItem.blk,Value.ownBlock,U4]at hb';omega
theorem Mem.rowCell {e:TypeId}{sz n cp b off:Nat}{xs:List Value}{v:Value} (ho:(HItem.row (.slice (some ⟨b,0,none⟩) n cp) e sz n xs).ok w) (hc:xs[off]?=some v):
  ∃c fr,w.heap[b]?=some (.cells c e fr)/\c[off]?=some v:=by
 rcases ho.2 with ⟨_,h0⟩|⟨g,cap,cur,hv,_,hg,_,_,_,ht⟩
 ·have h1:=ho.1
  subst h0;rw[A1o]at h1;have:off<xs.length:=(A0y.1 hc).1;omega
 ·injection hv with e1 _ _
  injection e1 with e1
  injection e1 with e1
  subst e1;refine⟨cur,(0,0),hg,?_⟩
  rw[<-ht,A1z]at hc;split at hc
  ·simpa using hc
  ·cases hc
theorem B9C [TyOne P t] {i b off n cp sz:Nat}{e:TypeId}{xs:List Value}{v:Value} (hm:Mem E I H w) (hw:U7 ops l ⟨some d,.load t x,ty,pos,af,g⟩=some true) (hN:Nat.blt d N=true)
  (hx:ev l x=some (.pointer (some ⟨b,off,none⟩))) (hb:H[i]?=some (.row (.slice (some ⟨b,0,none⟩) n cp) e sz n xs)) (hc:xs[off]?=some v)
  (k:WQ P N ds ops w K os ((d,v)::l)):WQ P N ds ops w K (⟨some d,.load t x,ty,pos,af,g⟩::os) l:=by
 obtain⟨c,fr,h1,h2⟩:=Mem.rowCell (hm.ok _ (A0J hb)) hc;exact B2S hw hN hx h1 h2 k
theorem A0W [TyOne P t] {i b off n cp sz:Nat}{e:TypeId}{xs:List Value}{v:Value} (hm:Mem E I H w) (hw:U7 ops l ⟨some d,.load t x,ty,pos,af,g⟩=some true) (hN:Nat.blt d N=true)
  (hx:ev l x=some (.pointer (some ⟨b,off,none⟩))) (hb:H[i]?=some (.row (.slice (some ⟨b,0,none⟩) n cp) e sz n xs)) (hc:xs[off]?=some v)
  (k:WL P N ds ops Q os ((d,v)::l) w):WL P N ds ops Q (⟨some d,.load t x,ty,pos,af,g⟩::os) l w:=by
 obtain⟨c,fr,h1,h2⟩:=Mem.rowCell (hm.ok _ (A0J hb)) hc;exact A46 hw hN hx h1 h2 k
theorem A5Z {by_:Nat} [Elem P t 1 by_] {i b off n cap sz:Nat}{e:TypeId}{xs:List Value}{v:Value}{dst:Option Nat} (hm:Mem E I H w) (hd:dst=none) (hw:U7 ops l ⟨dst,.store t x y,ty,pos,af,g⟩=some true)
  (hx:ev l x=some (.pointer (some ⟨b,off,none⟩))) (hy:ev l y=some v) (hi:H[i]?=some (.row (.slice (some ⟨b,0,none⟩) n cap) e sz n xs)) (hn1:v.cells.toList= [v]) (h1:v.oneCell'=true) (ho:off<xs.length)
  (k:∀w',Mem E I (H.set i (.row (.slice (some ⟨b,0,none⟩) n cap) e sz n (xs.set off v))) w'->WL P N ds ops Q os l w'):
  WL P N ds ops Q (⟨dst,.store t x y,ty,pos,af,g⟩::os) l w:=by
 refine B3I (hm.front i hi) hd hw hx hy hn1 h1 ho (fun w2 hm2=>k w2 (hm2.perm ?_))
 have hlt:i<H.length:=(A0y.1 hi).1;have h:=A7X (H.set i (.row (.slice (some ⟨b,0,none⟩) n cap) e sz n (xs.set off v))) i _ (A5r hlt);rw[List.eraseIdx_set_eq]at h;exact h.symm
end
abbrev Tri (α:Type):=List α×Option Addr×Nat
abbrev Tri.nil {α:Type}:Tri α:=([],none,0)
abbrev A2x {α:Type} (t:Tri α):Value:=.slice t.2.1 t.1.length t.2.2
abbrev sl0:Value:=.slice none 0 0
theorem B7P {α β:Type}{g:α->β}{T:List α}{i:Nat}{u:α}:(T.map g).set i (g u)=(T.set i u).map g:=by rw[List.map_set]
theorem B8z {α β:Type}{g:α->β}{T:List α}{i:Nat}{t:α} (h:T[i]?=some t):(T.map g).Perm (g t::(T.eraseIdx i).map g):=by
 have h2:=(Go.Fw.A7X T i t h).map g;exact h2
theorem C6P {α β:Type}{g:α->β}{T:List α}{i:Nat}{u:α} (h:i<T.length):((T.set i u).map g).Perm (g u::(T.eraseIdx i).map g):=by
 have h2:=B8z (g:=g) (T:=T.set i u) (i:=i) (t:=u) (A5r h);rw[List.eraseIdx_set_eq]at h2;exact h2
abbrev A8R (L:List Value) (n:Nat):List Value:=L++List.replicate n sl0
theorem C4y {L:List Value}{n m:Nat}{v:Value} (hl:L.length=m):(A8R L (n+1)).set m v=A8R (L++ [v]) n:=by
 subst hl;rw[A8R,A5V,if_neg (Nat.lt_irrefl _),A3R,List.replicate_succ,A8b,A8R,O4];rfl
theorem B5c {L:List Value}{n:Nat}:A8R L (n+1)=A8R (L++ [sl0]) n:=by
 rw[A8R,A8R,List.replicate_succ,O4];rfl
def B4u (I:P7) (b:Nat) (es:A1S):Prop:=I b=some (.map (A2A es 0).toArray es.length)
theorem B4u.le {I I':P7}{b:Nat}{es:A1S} (h:B4u I b es) (hl:Le I I'):B4u I' b es:=hl _ _ h
theorem Mem.freezeMZ {E:Ent}{I:P7}{H:List HItem}{w:World}{b:Nat}{es:A1S} (hm:Mem E I (.mz b es::H) w):∃I',Le I I'/\Mem E I' H w/\B4u I' b es:=by
 have hf:=hm.free _ Q5 b rfl;exact⟨I.add b (.map (A2A es 0).toArray es.length),Le.add hf,hm.tl.freezeB (hm.ok _ Q5) hf (hm.born _ Q5 b rfl) (fun h hh e=>(A1A.1 hm.dist).1 h hh b rfl e),P7.add_self _ _ _⟩
theorem CalM.lend {P:Program}{f:FuncId}{args:Array Value}{I:P7}{B H:List HItem}{Post:Value->List HItem->Prop}{QJ:P7->Prop}
  (hJ:∀E w,Mem E I (B++H) w->∃J,Le I J/\Mem E J H w/\QJ J) (hc:∀J,Le I J->QJ J->CalM P f args J H (fun v _ H'=>Post v H')):
  CalM P f args I (B++H) (fun v _ H'=> ∃H'',H'=B++H''/\Post v H''):=by
 refine CalM.of fun w E hm=>?_
 obtain⟨J,hl,hmJ,hq⟩:=hJ E w hm;have hcr:=(hc J hl hq).run w ⟨Kept.refl _ _,Le.refl _,hmJ.inv,hmJ.ok,hmJ.free,fun x hx c hc=> .inl (by simp only[A2p,A6J];exact⟨x,hx,hc⟩),hmJ.dist,fun _ _ h=> .inl h⟩;refine hcr.mono fun v w' ⟨J',H',hP,h2⟩=>⟨I,B++H',⟨H',rfl,hP⟩,?_⟩
 have h3:Mem E J' H' w':=by simpa using (Mem.back (R:= []) (by simpa using hmJ) h2)
 have hl':Le I J':=hl.trans h2.le;have hBH:∀x∈B,∀b,x.blk=some b->b∉A2p H:=fun x hx b hb hbl=>by
  obtain⟨k,hk,hkb⟩:=A9k hbl;exact(A2u.1 hm.dist).2.2 x hx k hk b hb hkb
 refine⟨h3.kept,hm.le,fun c o hc=>h3.inv c o (hl' c o hc),fun x hx=>?_,fun x hx c hc=>?_,fun x hx c hc=>?_,A2u.2 ⟨(A2u.1 hm.dist).1,h3.dist,fun x hx y hy c hc hc'=>?_⟩,hm.grow⟩
 ·rcases Z9.1 hx with hx|hx
  ·exact(hm.ok x (A1x _ hx)).kept h2.kept (hBH x hx)
  ·exact h3.ok x hx
 ·rcases Z9.1 hx with hx|hx
  ·exact hm.free x (A1x _ hx) c hc
  ·have:=h3.free x hx c hc
   cases hI:I c with
   |none=>rfl
   |some o=>rw[hl' c o hI]at this;cases this
 ·rcases Z9.1 hx with hx|hx
  ·exact hm.born x (A1x _ hx) c hc
  ·exact h3.born x hx c hc
 ·have hlt:=(hm.ok x (A1x _ hx)).lt hc
  rcases h2.born y hy c hc' with h|h
  ·exact hBH x hx c hc h
  ·exact absurd hlt (Nat.not_lt.2 h)
section
variable {P:Program}{N:Nat}{ds:List Deferred}{Q:Exit->Act->World->Prop}{K:Act->World->Prop}{KV:Act->Prop}{l:Log}{w w0:World}{ops:Array Oper}{os tail:List Oper}{X:List Nat}
variable {d:Nat}{ty:TypeId}{pos:String}{af:Array Edge}{g:Option (Nat×Bool)}{t:TypeId}{x y:Operand}{E:Ent}{I I0:P7}{H G R:List HItem}{n f:Nat}{listed:Array Bool}
theorem B1r {i off:Nat} [Fld P t i off] {b o':Nat} (hC:Kept X w0 w) (hw:U7 ops l ⟨some d,.fieldAddr t x i,ty,pos,af,g⟩=some true) (hN:Nat.blt d N=true)
  (hx:ev l x=some (.pointer (some ⟨b,o',none⟩))) (k:WA P N ds ops Q X w0 n f listed tail ((d,.pointer (some ⟨b,o'+off,none⟩))::l) w):
  WU P N ds ops Q X w0 n f listed tail ⟨some d,.fieldAddr t x i,ty,pos,af,g⟩ l w:=
 A5e rfl hw hN (fun a ha=>by
  obtain⟨fs,f,inf,h1,h2,h3,h4,h5⟩:=Fld.out (P:=P) (t:=t) (i:=i);have h6:=run_underlying (P:=P) (w:=w) h1;simp[execOp,Instr.fieldAt,Instr.sureAddr,ha.ev hx,h6,h2,fieldPlace,sizeOf,typeInfo,h4,h5,h3,Addr.add_lit]) hC k
theorem B8N {p:Addr} (hC:Kept X w0 w) (hw:U7 ops l ⟨some d,.nilCheck x,ty,pos,af,g⟩=some true) (hN:Nat.blt d N=true)
  (hx:ev l x=some (.pointer (some p))) (k:WA P N ds ops Q X w0 n f listed tail ((d,.pointer (some p))::l) w):WU P N ds ops Q X w0 n f listed tail ⟨some d,.nilCheck x,ty,pos,af,g⟩ l w:=
 A5e rfl hw hN (fun c hc=>by simp[execOp,hc.ev hx]) hC k
theorem B5m [TyOne P t] {a:Act} (ha:Fits N ds l a) {b off:Nat}{c:Array Value}{e:TypeId}{fr:Nat×Nat}{v:Value} (hx:ev l x=some (.pointer (some ⟨b,off,none⟩))) (hb:w.heap[b]?=some (.cells c e fr)) (hc:c[off]?=some v):
  (execOp a.eval ⟨some d,.load t x,ty,pos,af,g⟩).run P w=.ok (.value v) w:=by
 obtain⟨dd,h1,h2⟩:=TyOne.out (P:=P) (t:=t);have h4:=A2z hb hc;simp[execOp,Instr.loadAt,Instr.sureAddr,loadVar,A39 h1,h2,ha.ev hx,load,Sem.run,h4]
theorem B9E [TyOne P t] {i b off m cp sz:Nat}{e:TypeId}{xs:List Value}{v:Value} (hm:Mem ⟨w0,X,I0⟩ I H w) (hw:U7 ops l ⟨some d,.load t x,ty,pos,af,g⟩=some true) (hN:Nat.blt d N=true)
  (hx:ev l x=some (.pointer (some ⟨b,off,none⟩))) (hb:H[i]?=some (.row (.slice (some ⟨b,0,none⟩) m cp) e sz m xs)) (hc:xs[off]?=some v)
  (k:WA P N ds ops Q X w0 n f listed tail ((d,v)::l) w):WU P N ds ops Q X w0 n f listed tail ⟨some d,.load t x,ty,pos,af,g⟩ l w:=by
 obtain⟨c,fr,h1,h2⟩:=Mem.rowCell (hm.ok _ (A0J hb)) hc;exact A5e rfl hw hN (fun a ha=>B5m ha hx h1 h2) hm.kept k
theorem C4e [TyOne P t] {i b off:Nat}{c:List Value}{e:TypeId}{fr:Nat×Nat}{v:Value} (hm:Mem ⟨w0,X,I0⟩ I H w) (hw:U7 ops l ⟨some d,.load t x,ty,pos,af,g⟩=some true) (hN:Nat.blt d N=true)
  (hx:ev l x=some (.pointer (some ⟨b,off,none⟩))) (hb:H[i]?=some (.obj b (.cells c.toArray e fr))) (hc:c[off]?=some v)
  (k:WA P N ds ops Q X w0 n f listed tail ((d,v)::l) w):WU P N ds ops Q X w0 n f listed tail ⟨some d,.load t x,ty,pos,af,g⟩ l w:=
 A5e rfl hw hN (fun a ha=>B5m ha hx (hm.get hb) (by simpa using hc)) hm.kept k
theorem B1V {i b off by_:Nat} [Elem P t 1 by_] {c:List Value}{e:TypeId}{v:Value}{dst:Option Nat} (hm:Mem ⟨w0,X,I0⟩ I H w) (hd:dst=none) (hw:U7 ops l ⟨dst,.store t x y,ty,pos,af,g⟩=some true)
  (hx:ev l x=some (.pointer (some ⟨b,off,none⟩))) (hy:ev l y=some v) (hb:H[i]?=some (.obj b (.cells c.toArray e (0,0)))) (hn:v.cells.toList= [v]) (ho:Nat.blt off c.length=true) (h1:v.oneCell'=true)
  (k:∀w',Mem ⟨w0,X,I0⟩ I (H.set i (.obj b (.cells (c.set off v).toArray e (0,0)))) w'->WA P N ds ops Q X w0 n f listed tail l w'):
  WU P N ds ops Q X w0 n f listed tail ⟨dst,.store t x y,ty,pos,af,g⟩ l w:=by
 subst hd;have hget:=hm.get hb;have hlt:off<c.length:=by simpa[A1E] using ho
 have h2:=A6k (P:=P) (t:=t) (off:=off) (n:=1) v hget (by rw[<-A5s,hn];rfl) (by simp;omega) (by rw[hn];simp[h1]);generalize hc':(c.toArray.toList.take off++v.cells.toList++c.toArray.toList.drop (off+1)).toArray=c' at h2;have e0:c'=(c.set off v).toArray:=by
  rw[<-hc',hn, <-C08 ho,O4]
 rw[e0]at h2;have hk:Kept [b] w (w.setRow b (c.set off v).toArray):=Kept.setRow hget _;have hm':=hm.turn (h':=.obj b (.cells (c.set off v).toArray e (0,0))) hb (by simpa[HItem.blk] using hk) (by
  show (w.setRow b (c.set off v).toArray).heap[b]?=_
  rw[setRow_heap w b c.toArray _ e (0,0) hget]) (.inl rfl)
 refine B2W rfl hw (fun a ha=>?_) hm'.kept (k _ hm')
 simp only[execOp,Instr.storeAt,Instr.sureAddr,ha.ev hx,ha.ev hy,Sem.run_bind,Sem.run_pure,Result.andThen,h2]
theorem B7W {by_:Nat} [Elem P t 1 by_] {b off m cap sz:Nat}{e:TypeId}{xs:List Value}{v:Value}{dst:Option Nat} (hm:Mem ⟨w0,X,I0⟩ I (.row (.slice (some ⟨b,0,none⟩) m cap) e sz m xs::H) w) (hd:dst=none) (hw:U7 ops l ⟨dst,.store t x y,ty,pos,af,g⟩=some true)
  (hx:ev l x=some (.pointer (some ⟨b,off,none⟩))) (hy:ev l y=some v) (hn1:v.cells.toList= [v]) (h1:v.oneCell'=true) (ho:off<xs.length)
  (k:∀w',Mem ⟨w0,X,I0⟩ I (.row (.slice (some ⟨b,0,none⟩) m cap) e sz m (xs.set off v)::H) w'->WA P N ds ops Q X w0 n f listed tail l w'):
  WU P N ds ops Q X w0 n f listed tail ⟨dst,.store t x y,ty,pos,af,g⟩ l w:=by
 have h0:=hm.rowLen;rcases A5v m with hn|hn
 ·subst hn;rw[A1o]at h0;omega
 obtain⟨b',cp,cur,hv,hm2,hcp,hcm,hs,ht⟩:=hm.openRow hn;injection hv with e1 _ e3
 injection e1 with e1
 injection e1 with e1
 subst e1;subst e3;obtain⟨cL,rfl⟩:∃cL:List Value,cur=cL.toArray:=⟨cur.toList,by simp⟩;have hs':cL.length=cap *sz:=by simpa using hs
 have ht':cL.take (m *sz)=xs:=by simpa using ht
 have hle:m *sz<=cap *sz:=A3U _ hcp;refine B1V (i:=0) hm2 hd hw hx hy rfl hn1 (by rw[A1E];omega) h1 (fun w2 hm3=>k w2 ?_)
 have hm4:Mem ⟨w0,X,I0⟩ I (.obj b (.cells (cL.set off v).toArray e (0,0))::H) w2:=hm3;exact hm4.shutRow hcp hcm (by simpa using hs') (by simp only;rw[List.take_set,ht'])
theorem B9p {kt et:TypeId} [TyMap P t kt et] [TyInt P kt .i64] {b:Nat}{es:A1S}{s:Int}{zv:Value} (hm:Mem ⟨w0,X,I0⟩ I H w) (hb:B4u I b es) (hw:U7 ops l ⟨some d,.lookup t x y false,ty,pos,af,g⟩=some true) (hN:Nat.blt d N=true)
  (hx:ev l x=some (.map (some b))) (hy:ev l y=some (A7o s)) (hz:∀w,(zeroValue et).run P w=.ok zv w)
  (k:WA P N ds ops Q X w0 n f listed tail ((d,B1T es s zv)::l) w):WU P N ds ops Q X w0 n f listed tail ⟨some d,.lookup t x y false,ty,pos,af,g⟩ l w:=
 A5e rfl hw hN (fun _ ha=>A9u ha hx hy (hm.inv _ _ hb) hz) hm.kept k
end
end Go.Fw
