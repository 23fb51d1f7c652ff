/- Own work. -/
import Derived.Test.YtbmbnippbldmfaaGreatDoorSn4
import Derived.Maps.RangeRun
import Derived.Laws.OwnMore
set_option maxHeartbeats 64000000
namespace Go.Fw
open Go
section
variable {P:Program}{ops:Array Oper}{md:Region.Mode}{C:World->Prop}
def uOp (P:Program) (ops:Array Oper) (i:Nat) (K:Act->World->Prop) (a:Act) (w:World):Prop:=
 match ops[i]? with
 |none=>K a w
 |some o=>if Region.wanted o (yielded ops a.tmps) then (∃u w',(execOp a.eval o).run P w=.ok (.value u) w'/\K (a.put o.dst u) w')\/
   (∃f args,(execOp a.eval o).run P w=.ok (.enter f args) w/\Calls P f args w (fun e w'=> ∃u,e=.returned u/\K (a.put o.dst u) w'))\/
   (∃w',(execOp a.eval o).run P w=.ok .skip w'/\K (a.put o.dst undef) w') else K (a.put o.dst undef) w
theorem B8i {Q:Exit->Act->World->Prop}{i:Nat}{K:Act->World->Prop}{a:Act}{w:World} (h:uOp P ops i K a w):wpOp P ops Q i K a w:=by
 unfold uOp at h
 unfold wpOp
 cases ho:ops[i]? with
 |none=>simpa[ho] using h
 |some o=>
  simp only[ho]at h |-;split
  ·rename_i hw
   rw[if_pos hw]at h
   left
   rcases h with ⟨u,w',h1,h2⟩|⟨f,args,h1,h2⟩|⟨w',h1,h2⟩
   ·unfold Oper.wp
    rw[h1,Oper.upon_value];exact h2
   ·unfold Oper.wp
    rw[h1,Oper.upon_enter];exact Calls.mono h2 (fun e w' ⟨u,he,hk⟩=>by subst he;exact hk)
   ·unfold Oper.wp
    rw[h1,Oper.upon_skip];exact h2
  ·rename_i hw
   rw[if_neg hw]at h;exact h
theorem B79 {i:Nat}{K K':Act->World->Prop}{a:Act}{w:World} (hk:∀a w,K a w->K' a w) (h:uOp P ops i K a w):uOp P ops i K' a w:=by
 unfold uOp at h |-
 cases ho:ops[i]? with
 |none=>simp only[ho]at h |-;exact hk _ _ h
 |some o=>
  simp only[ho]at h |-;split
  ·rename_i hw
   rw[if_pos hw]at h;rcases h with ⟨u,w',h1,h2⟩|⟨f,args,h1,h2⟩|⟨w',h1,h2⟩
   ·exact .inl ⟨u,w',h1,hk _ _ h2⟩
   ·exact .inr (.inl ⟨f,args,h1,Calls.mono h2 (fun e w' ⟨u,he,h⟩=>⟨u,he,hk _ _ h⟩)⟩)
   ·exact .inr (.inr ⟨w',h1,hk _ _ h2⟩)
  ·rename_i hw
   rw[if_neg hw]at h;exact hk _ _ h
theorem A2i.uOp {i:Nat}{o:Oper}{v:Value}{a:Act}{w:World} (hi:ops[i]?=some o) (hy:A2i P ops C o v a) (hC:C w) {K:Act->World->Prop} (h:K (a.put o.dst v) w):uOp P ops i K a w:=by
 unfold Fw.uOp
 simp only[hi];rcases hy with ⟨hw,hv⟩|⟨hw,rfl⟩
 ·rw[if_pos hw];exact .inl ⟨v,w,hv w hC,h⟩
 ·rw[if_neg (by rw[hw];simp)];exact h
theorem C6a {j:Nat}{oi oj:Oper}{v:Value} (hj:ops[j]?=some oj) (hap:oi.apart ops oj=true)
  (hsi:∀cs b,oi.op≠ .select cs b) (hsj:∀cs b,oj.op≠ .select cs b) {K:Act->World->Prop}{a:Act}{w:World}
  (hy:A2i P ops C oi v a) (h:uOp P ops j K (a.put oi.dst v) w):
  uOp P ops j (fun a' w'=>A2i P ops C oi v a'/\K (a'.put oi.dst v) w') a w:=by
 obtain⟨h1,h2,h3⟩:=Oper.apart_spec hap;have keep:∀(a:Act),A2i P ops C oi v a->∀u,A2i P ops C oi v (a.put oj.dst u):=fun a hy u=>by
  unfold A2i at hy |-
  rw[execOp_put oi hsi a oj.dst u h3,wanted_put oi a oj.dst u h3];exact hy
 unfold uOp at *
 simp only[hj]at *;rw[wanted_put oj a oi.dst v h1]at h;split
 ·rename_i hw
  rw[if_pos hw]at h;rcases h with ⟨u,w',hu,hn⟩|⟨f,args,hu,hn⟩|⟨w',hu,hn⟩
  ·rw[execOp_put oj hsj a oi.dst v h1]at hu
   exact .inl ⟨u,w',hu,keep a hy u,by rw[<-Act.put_comm a v u h2];exact hn⟩
  ·rw[execOp_put oj hsj a oi.dst v h1]at hu
   exact .inr (.inl ⟨f,args,hu,Calls.mono hn (fun e w' ⟨u,he,h⟩=>⟨u,he,keep a hy u,by rw[<-Act.put_comm a v u h2];exact h⟩)⟩)
  ·rw[execOp_put oj hsj a oi.dst v h1]at hu
   exact .inr (.inr ⟨w',hu,keep a hy _,by rw[<-Act.put_comm a v undef h2];exact hn⟩)
 ·rename_i hw
  rw[if_neg hw]at h;exact⟨keep a hy _,by rw[<-Act.put_comm a v undef h2];exact h⟩
def B1h (P:Program) (md:Region.Mode) (ops:Array Oper) (C:World->Prop) (n:Nat) (L:Array Bool->Act->World->Prop):Nat->Array Bool->Act->World->Prop
 |0,listed,a,w=>L listed a w
 |f+1,listed,a,w=>Region.ready md ops listed≠ []/\∀i∈Region.ready md ops listed,i<n/\uOp P ops i (fun a' w'=>C w'/\B1h P md ops C n L f (listed.setIfInBounds i true) a' w') a w
theorem B6A {n g:Nat}{L:Array Bool->Act->World->Prop}{Q':Exit->Act->World->Prop} (hL:∀listed a w,L listed a w->wpAny P md ops Q' g listed a w):
  ∀(f:Nat) (listed:Array Bool) (a:Act) (w:World),B1h P md ops C n L f listed a w->wpAny P md ops Q' (f+g) listed a w
 |0,listed,a,w,h=>by rw[V6];exact hL _ _ _ h
 |f+1,listed,a,w,h=>by
  rw[show f+1+g=(f+g)+1 by omega];exact⟨fun h0=>absurd h0 h.1,fun i hi=>B8i (B79 (fun a' w' h'=>B6A hL f _ a' w' h'.2) (h.2 i hi).2)⟩
theorem C6b {n i:Nat}{oi:Oper}{v:Value}{L:Array Bool->Act->World->Prop} (hi:ops[i]?=some oi) (hsel:∀(j:Nat) (o:Oper) cs b,ops[j]?=some o->o.op≠ .select cs b)
  (hs:Region.sinkB md ops n=true) (hc:Region.chainB md ops n=true) (hn:n<ops.size) (hin:i<n)
  (hdone:∀listed a w,L listed a w->∀j∈Region.ready md ops listed,n<=j):
  ∀(f:Nat) (listed:Array Bool) (a:Act) (w:World),C w->HeadInv md ops n listed->
   (∀j oj,ops[j]?=some oj->j≠i->listed.getD j true=false->(∀e∈oj.after,Region.binds md e=true->e.on≠i)->oi.apart ops oj=true)->
   i∈Region.ready md ops listed->A2i P ops C oi v a->
   B1h P md ops C n L f (listed.setIfInBounds i true) (a.put oi.dst v) w->B1h P md ops C n L (f+1) listed a w:=by
 intro f;induction f with
 |zero=>
  intro listed a w hC inv _ hr hy H;have hun:=(mem_ready.1 hr).1;refine⟨fun h=>(by rw[h]at hr;cases hr),fun j hj=>?_⟩
  have hjn:j<n:=by
   rcases U0 j n with h|h
   ·exact h
   ·exact absurd hj (tail_waits hs hc hn inv _ i rfl hin hun j h)
  refine⟨hjn,?_⟩
  by_cases hji:j=i
  ·subst hji;exact hy.uOp hi hC ⟨hC,H⟩
  ·have:=hdone _ _ _ H j (ready_mono hj hji)
   omega
 |succ f ih=>
  intro listed a w hC inv hfree hr hy H;have hun:=(mem_ready.1 hr).1;refine⟨fun h=>(by rw[h]at hr;cases hr),fun j hj=>?_⟩
  have hjn:j<n:=by
   rcases U0 j n with h|h
   ·exact h
   ·exact absurd hj (tail_waits hs hc hn inv _ i rfl hin hun j h)
  refine⟨hjn,?_⟩
  by_cases hji:j=i
  ·subst hji;exact hy.uOp hi hC ⟨hC,H⟩
  ·have h1:=(H.2 j (ready_mono hj hji)).2
   obtain⟨hjun,oj,hoj,hall⟩:=mem_ready.1 hj;have hnot:∀e∈oj.after,Region.binds md e=true->e.on≠i:=fun e he hb heq=>by
    have h1:=hall e he hb;rw[heq,getD_both hun]at h1;cases h1
   have h2:=C6a hoj (hfree j oj hoj hji hjun hnot) (fun cs b=>hsel i oi cs b hi) (fun cs b=>hsel j oj cs b hoj) hy h1;have hfree':∀k ok,ops[k]?=some ok->k≠i->(listed.setIfInBounds j true).getD k true=false->
     (∀e∈ok.after,Region.binds md e=true->e.on≠i)->oi.apart ops ok=true:=fun k ok hk hki hun hno=>by
    refine hfree k ok hk hki ?_ hno
    by_cases hjk:j=k
    ·subst hjk;exact hjun
    ·rw[getD_set_ne true hjk]at hun;exact hun
   refine B79 (fun a' w' h3=>⟨h3.2.1,ih (listed.setIfInBounds j true) a' w' h3.2.1 (inv.set hj hjn) hfree' (ready_mono hr (Ne.symm hji)) h3.1 ?_⟩) h2
   rw[A7Q _ _ hji];exact h3.2.2
def B7g (md:Region.Mode) (ops:Array Oper) (n:Nat):List Nat->Array Bool->Bool
 | [],_=>true
 |k::ks,listed=>(Region.ready md ops listed).contains k && Region.free md ops listed k && decide (k<n) && B7g md ops n ks (listed.setIfInBounds k true)
def B7h:List Nat->Array Bool->Array Bool
 | [],l=>l
 |k::ks,l=>B7h ks (l.setIfInBounds k true)
theorem A94 {n g f:Nat}{Lq:Act->World->Prop} (hsel:Region.noSelect ops=true) (hs:Region.sinkB md ops n=true) (hc:Region.chainB md ops n=true) (hn:n<ops.size):
  ∀(ks:List Nat) (l:List Oper) (listed:Array Bool) (a:Act) (w:World),C w->ks.map (ops[·]?)=l.map some->HeadInv md ops n listed->B7g md ops n ks listed=true->
  A61 P ops C (fun a'=>B1h P md ops C n (fun listed' a' w'=>Region.seqB md ops g n listed'=true/\Lq a' w') f (B7h ks listed) a' w) l a->
  B1h P md ops C n (fun listed' a' w'=>Region.seqB md ops g n listed'=true/\Lq a' w') (l.length+f) listed a w
 | [],[],listed,a,w,_,_,_,_,h=>by rw[List.length_nil,V6];exact h
 |k::ks,o::l,listed,a,w,hC,hl,inv,hB,h=>by
  simp only[X8,A27]at hl;obtain⟨h0,hl'⟩:=hl;simp only[B7g,U9,decide_eq_true_eq]at hB;obtain⟨⟨⟨hr,hf⟩,hkn⟩,hB'⟩:=hB;have hr':k∈Region.ready md ops listed:=by simpa using hr
  obtain⟨v,hy,hK⟩:=h;rw[show (o::l).length+f=(l.length+f)+1 by simp only[F8];omega];exact C6b h0 (Region.noSelect_spec hsel) hs hc hn hkn (fun listed' a' w' hL=>seqB_ready hL.1) (l.length+f) listed a w hC inv (Region.free_spec h0 hf) hr' hy
   (A94 hsel hs hc hn ks l _ _ w hC hl' (inv.set hr' hkn) hB' hK)
 | [],_::_,_,_,_,_,hl,_,_,_=>by simp at hl
 |_::_,[],_,_,_,_,hl,_,_,_=>by simp at hl
def B8L (ops:Array Oper) (ks:List Nat) (n:Nat):Bool:=
 Region.noSelect ops && decide (n<ops.size) && Region.sinkB .any ops n && Region.chainB .any ops n && B7g .any ops n ks (Array.replicate ops.size false) && decide (ks.length<=n) && ks.all (fun k=>Nat.blt k ops.size)
theorem B3T {id:Nat}{Q:Exit->Act->World->Prop}{a:Act}{w:World}{l:List Oper} (ks:List Nat) (n:Nat) (hm:P.follows .mixedOrders=true) (hB:B8L l.toArray ks n=true)
  (hC:C { w with drawn:=w.drawn+1})
  (h:A61 P l.toArray C (fun a'=>B1h P .any l.toArray C n (fun listed' a' w'=>Region.seqB .any l.toArray (l.length-n) n listed'=true/\wpList P l.toArray Q (l.drop n) a' w') (n-ks.length) (B7h ks (Array.replicate l.length false)) a' { w with drawn:=w.drawn+1}) (A2W l ks) a):
  (Code.region id l.toArray true).wp P Q a w:=by
 simp only[B8L,U9,decide_eq_true_eq]at hB;obtain⟨⟨⟨⟨⟨⟨hsel,hn⟩,hs⟩,hc⟩,hlex⟩,hlen⟩,hks⟩:=hB;have hn':n<l.length:=by simpa using hn
 have hdl:(l.drop n).length=l.length-n:=by simp
 obtain⟨k1,k2⟩:=A34 l ks (by simpa using hks);have inv0:HeadInv .any l.toArray n (Array.replicate l.length false):=
  ⟨by simp,fun j oj _ hl=>(by rw[getD_replicate_false]at hl;cases hl),fun t _ ht=>getD_in (by simpa using ht) (getD_replicate_false _ _)⟩
 have H:=A94 (md:=.any) (g:=l.length-n) (f:=n-ks.length) hsel hs hc hn ks (A2W l ks) _ a _ hC k1 inv0 (by simpa using hlex) h;refine wp_region_any hm ?_
 have:=B6A (Q':=Q) (g:=l.length-n) (fun listed a' w' hL=>by
  have:=wpAny_of_seq (md:=.any) (Q':=Q) (l.drop n) n listed a' w' (fun j=>by simp) (by rw[hdl];exact hL.1) hL.2
  rwa [hdl]at this) _ _ _ _ H
 rw[k2,show ks.length+(n-ks.length)+(l.length-n)=l.length by omega]at this;simpa using this
end
section
variable {P:Program}{N:Nat}{ds:List Deferred}{X:List Nat}{Q:Exit->Act->World->Prop}{l:Log}{w w' w0:World}{os tail:List Oper}{ops:Array Oper}{E:Ent}{I:P6}{G R H:List HItem}{o:Oper}
structure WA (P:Program) (N:Nat) (ds:List Deferred) (ops:Array Oper) (Q:Exit->Act->World->Prop) (X:List Nat) (w0:World) (n f:Nat) (listed:Array Bool) (tail:List Oper) (l:Log) (w:World):Prop where
 run:∀a,Fits N ds l a->B1h P .any ops (fun w'=>Kept X w0 w') n (fun listed' a' w'=>Region.seqB .any ops (ops.size-n) n listed'=true/\wpList P ops Q tail a' w') f listed a w
structure WU (P:Program) (N:Nat) (ds:List Deferred) (ops:Array Oper) (Q:Exit->Act->World->Prop) (X:List Nat) (w0:World) (n f:Nat) (listed:Array Bool) (tail:List Oper) (o:Oper) (l:Log) (w:World):Prop where
 run:∀a,Fits N ds l a->∀i,ops[i]?=some o->uOp P ops i (fun a' w'=>Kept X w0 w'/\B1h P .any ops (fun w'=>Kept X w0 w') n (fun listed' a' w'=>Region.seqB .any ops (ops.size-n) n listed'=true/\wpList P ops Q tail a' w') f listed a' w') a w
theorem A1k [Mixed P] {id:Nat} (hm:Mem E I (G++R) w) (ks:List Nat) (n:Nat) (hB:B8L os.toArray ks n=true:=by kernel_rfl)
  (h:∀wd,Mem E I (G++R) wd->Mem ⟨wd,A2p G,I⟩ I G wd->WV P N ds os.toArray (A2p G) wd (fun a'=>B1h P .any os.toArray (fun w'=>Kept (A2p G) wd w') n (fun listed' a' w'=>Region.seqB .any os.toArray (os.toArray.size-n) n listed'=true/\wpList P os.toArray Q (os.drop n) a' w') (n-ks.length) (B7h ks (Array.replicate os.length false)) a' wd) (A2W os ks) l):
  WC P N ds (.region id os.toArray true) Q l w:=
 ⟨fun a ha=>B3T (C:=fun w'=>Kept (A2p G) { w with drawn:=w.drawn+1} w') ks n Mixed.out hB (Kept.refl _ _) ((h _ (hm.kept0 (Kept.drew w)) (hm.kept0 (Kept.drew w)).sub).run a ha)⟩
theorem B09 {n f:Nat}{listed:Array Bool} (h:WA P N ds ops Q X w n f listed tail l w):
  WV P N ds ops X w (fun a'=>B1h P .any ops (fun w'=>Kept X w w') n (fun listed' a' w'=>Region.seqB .any ops (ops.size-n) n listed'=true/\wpList P ops Q tail a' w') f listed a' w) [] l:=⟨fun a ha=>h.run a ha⟩
theorem A5a {n:Nat}{listed:Array Bool} (hs:Region.seqB .any ops (ops.size-n) n listed=true) (h:WL P N ds ops Q tail l w):WA P N ds ops Q X w0 n 0 listed tail l w:=⟨fun a ha=>⟨hs,h.run a ha⟩⟩
theorem A1j {n f i:Nat}{listed:Array Bool} (h:WU P N ds ops Q X w0 n f (listed.setIfInBounds i true) tail o l w) (hr:Region.ready .any ops listed= [i]) (hi:ops[i]?=some o:=by rfl) (hn:Nat.blt i n=true:=by rfl)
   :WA P N ds ops Q X w0 n (f+1) listed tail l w:=
 ⟨fun a ha=>⟨by rw[hr];simp,fun j hj=>by
  rw[hr]at hj;obtain rfl:j=i:=by simpa using hj
  exact⟨by simpa[A1x] using hn,h.run a ha j hi⟩⟩⟩
theorem A6R {n f i j:Nat}{o2:Oper}{listed:Array Bool} (h2:WU P N ds ops Q X w0 n f (listed.setIfInBounds j true) tail o2 l w) (hr:Region.ready .any ops listed= [i,j]) (hi:ops[i]?=some o:=by rfl) (hj:ops[j]?=some o2:=by rfl) (hn:Nat.blt i n=true:=by rfl) (hn2:Nat.blt j n=true:=by rfl)
  (h:WU P N ds ops Q X w0 n f (listed.setIfInBounds i true) tail o l w)  :WA P N ds ops Q X w0 n (f+1) listed tail l w:=
 ⟨fun a ha=>⟨by rw[hr];simp,fun k hk=>by
  rw[hr]at hk;rcases V8.1 hk with rfl|hk
  ·exact⟨by simpa[A1x] using hn,h.run a ha _ hi⟩
  ·obtain rfl:k=j:=by simpa using hk
   exact⟨by simpa[A1x] using hn2,h2.run a ha _ hj⟩⟩⟩
variable {d:Nat}{ty:TypeId}{pos:String}{af:Array Edge}{g:Option (Nat×Bool)}{t t':TypeId}{x y z:Operand}{n f:Nat}{listed:Array Bool}
theorem A3q {d:Nat}{v:Value} (hd:o.dst=some d) (hw:U4 ops l o=some true) (hN:Nat.blt d N=true) (hrun:∀a,Fits N ds l a->(execOp a.eval o).run P w=.ok (.value v) w') (hC:Kept X w0 w')
  (k:WA P N ds ops Q X w0 n f listed tail ((d,v)::l) w'):WU P N ds ops Q X w0 n f listed tail o l w:=
 ⟨fun a ha i hi=>by
  unfold uOp
  simp only[hi];rw[A23 ha hw];exact .inl ⟨v,w',hrun a ha,hC,by rw[hd];exact k.run _ (ha.put hN v)⟩⟩
theorem B2D (hd:o.dst=none) (hw:U4 ops l o=some true) (hrun:∀a,Fits N ds l a->(execOp a.eval o).run P w=.ok .skip w') (hC:Kept X w0 w')
  (k:WA P N ds ops Q X w0 n f listed tail l w'):WU P N ds ops Q X w0 n f listed tail o l w:=
 ⟨fun a ha i hi=>by
  unfold uOp
  simp only[hi];rw[A23 ha hw];exact .inr (.inr ⟨w',hrun a ha,hC,by rw[hd];exact k.run _ ha⟩)⟩
theorem B1A {pl:List (Nat×Nat)}{z:List Value} [hS:StructT P t pl z] {n' by_:Nat} [Elem P t n' by_] {I0:P6} (k:∀b w',Mem ⟨w0,X,I0⟩ I (.obj b (.cells z.toArray t (0,0))::H) w'->WA P N ds ops Q X w0 n f listed tail ((d,.pointer (some ⟨b,0,none⟩))::l) w') (hm:Mem ⟨w0,X,I0⟩ I H w) (hw:U4 ops l ⟨some d,.alloc t,ty,pos,af,g⟩=some true:=by rfl) (hN:Nat.blt d N=true:=by rfl)
   :
  WU P N ds ops Q X w0 n f listed tail ⟨some d,.alloc t,ty,pos,af,g⟩ l w:=by
 obtain⟨_,_,_,hz⟩:=hS.out;cases hi:P.info? t with
 |none=>simp[hi]at hz
 |some i=>
  simp only[hi,A1m]at hz;have hk:=Kept.alloc w (.cells z.toArray t (0,0));have hm':=hm.add (x:=.obj w.heap.size (.cells z.toArray t (0,0))) hk (heap_alloc_new w _) (fun b hb=>by simp only[HItem.blk,U3]at hb;omega);refine A3q (w':=w.alloc (.cells z.toArray t (0,0))) (v:=.pointer (some ⟨w.heap.size,0,none⟩)) rfl hw hN (fun a ha=>?_) hm'.kept (k _ _ hm')
  simp[execOp,Instr.alloc,newVar,newRow,newObj,zeroValue,typeInfo,hi,hz,Value.cells];rfl
structure WHold (p:Prop):Prop where
 out:p
theorem A0H (id:Nat) {dr:Bool} (h:WHold (WC P N ds (.region id ops dr) Q l w)):WC P N ds (.region id ops dr) Q l w:=h.out
theorem C0L {α:Type} (id:Nat) (L:α->Log) (J:α->World->Prop)
  (h:WC P N ds (.region id os.toArray true) (Exit.then (fun a w=> ∃x,Fits N ds (L x) a/\J x w) Q) l w) (k:∀x w,J x w->At N ds Q .normal (L x) w):WC P N ds (.region id os.toArray true) Q l w:=
 ⟨fun a ha=>wp_mono (h.run a ha) (fun e a w q=>by
  cases e<;>first|exact q|(obtain⟨x,hx,hj⟩:=q;exact(k x w hj).run a hx))⟩
theorem A05 {e:TypeId}{sz by_:Nat}{KV:Act->Prop} [TySlice P t e] [Elem P e sz by_] {a:Option Addr}{m cp:Nat}{i:Int}{xs:List Value} (k:∀b off,PtrI I b off e ((xs.drop (i.toNat *sz)).take sz)->WV P N ds ops X w KV os ((d,.pointer (some ⟨b,off,none⟩))::l)) (hw:U4 ops l ⟨some d,.indexAddr t x y,ty,pos,af,g⟩=some true:=by rfl) (hN:Nat.blt d N=true:=by rfl)
  (hx:ev l x=some (.slice a m cp):=by rfl) (hy:ev l y=some (.int .i64 i):=by rfl) (hr:RowI I e sz (.slice a m cp) m xs) (h0:0<=i:=by omega) (h1:i<m:=by omega)
   :
  WV P N ds ops X w KV (⟨some d,.indexAddr t x y,ty,pos,af,g⟩::os) l:=by
 obtain⟨b,off,rfl,hp⟩:=hr.at_ i.toNat (by omega);exact B2d hw hN hx hy h0 h1 (k b _ hp)
theorem B7t {i b n' by_:Nat} [Elem P t n' by_] {c vs:List Value}{e:TypeId}{dst:Option Nat}{I0:P6} (k:∀w',Mem ⟨w0,X,I0⟩ I (H.set i (.obj b (.cells vs.toArray e (0,0)))) w'->WA P N ds ops Q X w0 n f listed tail l w') (hm:Mem ⟨w0,X,I0⟩ I H w) (hd:dst=none:=by rfl) (hw:U4 ops l ⟨dst,.store t x y,ty,pos,af,g⟩=some true:=by rfl)
  (hx:ev l x=some (.pointer (some ⟨b,0,none⟩)):=by rfl) (hy:ev l y=some (.agg vs.toArray):=by rfl) (hb:H[i]?=some (.obj b (.cells c.toArray e (0,0))):=by first|exact gt0|exact gt1|exact gt2|exact gt3|exact gt4|exact gt5|exact gt6) (hn:vs.length=n':=by rfl) (ho:c.length=n':=by rfl)
  (h1:vs.all (·.oneCell')=true:=by rfl)
   :
  WU P N ds ops Q X w0 n f listed tail ⟨dst,.store t x y,ty,pos,af,g⟩ l w:=by
 subst hd;have hget:=hm.get hb;have h2:=A58 (P:=P) (t:=t) (off:=0) (.agg vs.toArray) hget (by simpa[Value.cells] using hn) (by simp[ho]) (by simpa[Value.cells] using h1);generalize hc':(c.toArray.toList.take 0++(Value.agg vs.toArray).cells.toList++c.toArray.toList.drop (0+n')).toArray=c' at h2;have e0:c'=vs.toArray:=by
  rw[<-hc',V6, <-ho];simp[Value.cells]
 rw[e0]at h2;have hk:Kept [b] w (w.setRow b vs.toArray):=Kept.setRow hget _;have hm':=hm.turn (h':=.obj b (.cells vs.toArray e (0,0))) hb (by simpa[HItem.blk] using hk) (by
  show (w.setRow b vs.toArray).heap[b]?=_
  rw[setRow_heap w b c.toArray _ e (0,0) hget]) (.inl rfl)
 refine B2D rfl hw (fun a ha=>?_) hm'.kept (k _ hm')
 simp only[execOp,Instr.storeAt,Instr.sureAddr,ha.ev hx,ha.ev hy,Sem.run_bind,Sem.run_pure,Result.andThen,h2]
end
theorem A65 {P:Program}{N:Nat}{ds:List Deferred}{Q:Exit->Act->World->Prop}{l:Log}{w:World} (id:Nat) {ops:Array Oper}{dr:Bool}{x y:Code}{α:Type} (L:α->Log) (J:α->World->Prop)
  (h:WHold (WC P N ds (.seq (.region id ops dr) x) (Exit.then (fun a w=> ∃x,Fits N ds (L x) a/\J x w) Q) l w))
  (k:∀x w,J x w->WC P N ds y Q (L x) w):WC P N ds (.seq (.seq (.region id ops dr) x) y) Q l w:=B0p id L J h.out k
theorem B2e {P:Program}{N:Nat}{ds:List Deferred}{Q:Exit->Act->World->Prop}{l:Log}{w:World} (id:Nat) {ops:Array Oper}{dr:Bool}{x y:Code}{α:Type} (L:α->Log) (J:α->World->Prop)
  (h:WHold (WC P N ds (.seq (.region id ops dr) x) (Exit.then (fun a w=> ∃x,Fits N ds (L x) a/\J x w) Q) l w))
  (k:∀x w,J x w->WC P N ds y Q (L x) w):WC P N ds (.seq (.seq (.region id ops dr) x) y) Q l w:=B0p id L J h.out k
section
variable {P:Program}{N:Nat}{ds:List Deferred}{X:List Nat}{Q:Exit->Act->World->Prop}{l:Log}{w w' w0:World}{os tail:List Oper}{ops:Array Oper}{E:Ent}{I I0:P6}{G R H:List HItem}{o:Oper}
variable {d:Nat}{ty:TypeId}{pos:String}{af:Array Edge}{g:Option (Nat×Bool)}{t t':TypeId}{x y z:Operand}{n f:Nat}{listed:Array Bool}
theorem C4D {d f':Nat}{fn:FuncId}{args:Array Value}{Post:Value->World->Prop} (hd:o.dst=some d) (hw:U4 ops l o=some true) (hN:Nat.blt d N=true)
  (hrun:∀a,Fits N ds l a->(execOp a.eval o).run P w=.ok (.enter fn args) w) (hc:Cal P fn args w Post)
  (k:∀v w',Post v w'->Kept X w0 w'/\WA P N ds ops Q X w0 n f' listed tail ((d,v)::l) w'):WU P N ds ops Q X w0 n f' listed tail o l w:=
 ⟨fun a ha i hi=>by
  unfold uOp
  simp only[hi];rw[A23 ha hw];refine .inr (.inl ⟨fn,args,hrun a ha,Calls.mono hc.run (fun e w' q=>?_)⟩)
  cases e with
  |returned v=>exact⟨v,rfl,(k v w' q).1,by rw[hd];exact(k v w' q).2.run _ (ha.put hN v)⟩
  |panicked c=>exact q.elim
  |outgrown=>exact q.elim⟩
theorem A42 {fn:FuncId} [Own P fn] {xs:List Operand}{tys:Array TypeId}{vs:List Value}{Post:Value->P6->List HItem->Prop} (hm:Mem ⟨w0,X,I0⟩ I G w)
  (hw:U4 ops l ⟨some d,.call ⟨.value (.func fn),xs.toArray,tys⟩,ty,pos,af,g⟩=some true) (hN:Nat.blt d N=true)
  (hx:evs l xs=some vs) (hp:G.Perm (H++R)) (hc:CalM P fn vs.toArray I H Post)
  (k:∀v I' H' w',Post v I' H'->Le I I'->Mem ⟨w0,X,I0⟩ I' (H'++R) w'->WA P N ds ops Q X w0 n f listed tail ((d,v)::l) w'):
  WU P N ds ops Q X w0 n f listed tail ⟨some d,.call ⟨.value (.func fn),xs.toArray,tys⟩,ty,pos,af,g⟩ l w:=
 C4D rfl hw hN (fun a ha=>by
  have:=ha.evs hx;simp[execOp,resolve,invoke,Act.eval,Deferred.ofValue,this,A2m]) (hc.run w (hm.perm hp).sub) (fun v w' ⟨I',H',h1,h2⟩=>
   have hm':=(hm.perm hp).back h2
   ⟨hm'.kept,k v I' H' w' h1 h2.le hm'⟩)
end
def B2h (es:A6i) (s:List UInt8) (v:Value):A6i:=match es.findIdx? (fun p=>decide (p.1=s)) with
 |some i=>es.set i (s,v)
 |none=>es++ [(s,v)]
theorem B6T (es:A6i) (i:Nat) (s:List UInt8) (v:Value):(A4w es 0).toArray.modify i (fun e=> { e with key:=str s,val:=v})=(A4w (es.set i (s,v)) 0).toArray:=by
 apply A6w
 intro j;rw[A2P];simp only[A4w,A2O,A0f,A6v,A2d];by_cases h:i=j
 ·subst h
  rw[if_pos rfl,if_pos rfl];by_cases h2:i<es.length
  ·rw[if_pos h2,G6 h2];rfl
  ·rw[if_neg h2,A07 (by omega)];rfl
 ·rw[if_neg h,if_neg h]
theorem C3x {es:A6i}{s:List UInt8}{v:Value}{p:List UInt8×Value} (h:p∈B2h es s v):p∈es\/p=(s,v):=by
 rw[B2h]at h;split at h
 ·rcases List.mem_or_eq_of_mem_set h with h|h
  ·exact .inl h
  ·exact .inr h
 ·rcases A0d.1 h with h|h
  ·exact .inl h
  ·exact .inr (A0v.1 h)
theorem C1o {es:A6i}{s:List UInt8}{v:Value} (u:List UInt8):u∈(B2h es s v).map (·.1)↔u∈es.map (·.1)\/u=s:=by
 rw[B2h];cases hf:es.findIdx? (fun p=>decide (p.1=s)) with
 |some i=>
  obtain⟨hi,hs,_⟩:=A2q.1 hf;have hs':es[i].1=s:=by simpa using hs
  have:(es.set i (s,v)).map (·.1)=es.map (·.1):=by
   apply A3T
   intro j;simp only[A0f,A2d];split
   ·rename_i h
    subst h;rw[G6 hi];simp[hs']
   ·rfl
  dsimp only
  rw[this];constructor
  ·exact .inl
  ·rintro(h|h)
   ·exact h
   ·subst h;rw[<-hs'];exact A5s (O7 hi)
 |none=>simp
theorem B89 {es:A6i}{s:List UInt8}{v:Value} (h:(es.map (·.1)).Nodup):((B2h es s v).map (·.1)).Nodup:=by
 rw[B2h];cases hf:es.findIdx? (fun p=>decide (p.1=s)) with
 |some i=>
  obtain⟨hi,hs,_⟩:=A2q.1 hf;have hs':es[i].1=s:=by simpa using hs
  have:(es.set i (s,v)).map (·.1)=es.map (·.1):=by
   apply A3T
   intro j;simp only[A0f,A2d];split
   ·rename_i h
    subst h;rw[G6 hi];simp[hs']
   ·rfl
  dsimp only
  rw[this];exact h
 |none=>
  dsimp only
  rw[Y8,A5w];refine⟨h,by simp,fun a h1 b h2=>?_⟩
  simp only[X8,List.map_nil,A0v]at h2;subst h2;rintro rfl;obtain⟨p,hp,hps⟩:=A0x.1 h1;have:=A3L.1 hf p hp;simp[hps]at this
section
variable {P:Program}{N:Nat}{ds:List Deferred}{Q:Exit->Act->World->Prop}{l:Log}{w:World}{ops:Array Oper}{os:List Oper}
variable {d:Nat}{ty:TypeId}{pos:String}{af:Array Edge}{g:Option (Nat×Bool)}{t t':TypeId}{x y z:Operand}{E:Ent}{I:P6}{H:List HItem}
theorem C8o {kt et:TypeId} [TyMap P t kt et] [TyStr P kt] {i b:Nat}{es:A6i}{s:List UInt8}{v:Value}{dst:Option Nat} (hm:Mem E I H w) (hd:dst=none) (hw:U4 ops l ⟨dst,.insert t x y z,ty,pos,af,g⟩=some true)
  (hx:ev l x=some (.map (some b))) (hy:ev l y=some (str s)) (hz:ev l z=some v) (hi:H[i]?=some (.mp b es)) (hn:(es.map (·.1)).Nodup)
  (k:∀w',Mem E I (H.set i (.mp b (B2h es s v))) w'->WL P N ds ops Q os l w'):
  WL P N ds ops Q (⟨dst,.insert t x y z,ty,pos,af,g⟩::os) l w:=by
 cases hf:es.findIdx? (fun p=>decide (p.1=s)) with
 |none=>
  have hs:(es.map (·.1)).contains s=false:=by
   rw[<-Bool.not_eq_true,A6u];intro h1;obtain⟨p,hp,hps⟩:=A0x.1 h1;have:=A3L.1 hf p hp;simp[hps]at this
  have e:B2h es s v=es++ [(s,v)]:=by rw[B2h,hf]
  rw[e]at k;exact B7j hm hd hw hx hy hz hi hn hs k
 |some j=>
  obtain⟨hj,hsj,_⟩:=A2q.1 hf;have hsj':es[j].1=s:=by simpa using hsj
  have e:B2h es s v=es.set j (s,v):=by rw[B2h,hf]
  rw[e]at k;have hget:=hm.get hi;subst hd;refine B45 hw fun a ha=>?_
  have h1:=run_underlying (P:=P) (w:=w) (TyMap.out (P:=P) (t:=t));have hk:=TyStr.out (P:=P) (t:=kt);have h2:=A9e (P:=P) (w:=w) hk s es 0;have h3:=A8c (P:=P) (w:=w) hk s false;have h4:=MapKept.run_getObj_map (P:=P) hget;rw[hf]at h2;have hg:es[j]?=some es[j]:=G6 hj;simp only[A1m,hg,A17,V6]at h2;have h5:=fun o'=>MapKept.run_setObj_map (P:=P) o' hget
  have hkey:(A4w es 0).toArray[j]?=some { key:=str s,val:=es[j].2,born:=j}:=by
   simp[A4w,hg,hsj']
  have h6:(Instr.keyThatStays (str s) (str s)).run P w=.ok (str s) w:=by
   have:Instr.sameBits 10000 (str s) (str s)=true:=(MapKept.bytes_beq _ _).2 rfl;simp[Instr.keyThatStays,this]
  have hb:=A2v hget;have hkept:Kept [b] w { w with heap:=w.heap.setIfInBounds b (.map ((A4w es 0).toArray.modify j (fun e=> { e with key:=str s,val:=v})) es.length)}:=
   ⟨rfl,rfl,rfl,by simp,fun i hi hx=>by
    have:b≠i:=by rintro rfl;simp at hx
    simp[A5n this]⟩
  have hm':=hm.turn (h':=.mp b (es.set j (s,v))) hi (by simpa[HItem.blk] using hkept) (by
   show HItem.ok _ _
   have e2:=B6T es j s v;simp only[HItem.ok, <-e2,A2n];simp[hb]) (.inl rfl)
  have h7:=(k _ hm').run _ ha;simp only[Oper.wp,execOp,Instr.mapUpdate,ha.ev hx,ha.ev hy,ha.ev hz,Sem.run_bind,h1,Result.andThen_ok,h4,h3,h2,hkey,A17,Option.getD_some,h6,h5,Oper.upon_skip,Act.put,Sem.run_pure];simpa only[List.modify_toArray] using h7
theorem B6c {dst:Option Nat} (h:WL P N ds ops Q (⟨dst,.insert t x y z,ty,pos,af,g⟩::os) l w):WL P N ds ops Q (⟨dst,.mapUpdate t x y z,ty,pos,af,g⟩::os) l w:=⟨fun a ha=>h.run a ha⟩
end
section
variable {P:Program}{N:Nat}{ds:List Deferred}{Q:Exit->Act->World->Prop}{K:Act->World->Prop}{l:Log}{w:World}{ops:Array Oper}{os:List Oper}
variable {d:Nat}{ty:TypeId}{pos:String}{af:Array Edge}{g:Option (Nat×Bool)}{t:TypeId}{x y:Operand}{E:Ent}{I:P6}{H:List HItem}
end
abbrev A7c (k:Int):Value:=.int .i64 k
abbrev A1N:=List (Int×Value)
def A2x (es:A1N) (n:Nat):List MapEntry:=(es.zipIdx n).map (fun p=> { key:=A7c p.1.1,val:=p.1.2,born:=p.2})
theorem B4s (s:Int):∀(es:A1N) (n m:Nat),Instr.findNow (.int .i64) (A7c s) (A2x es n) m=some ((es.findIdx? (fun p=>decide (p.1=s))).bind (fun i=>(es[i]?).map (fun p=>(m+i,p.2))))
 | [],n,m=>rfl
 |(u,v)::es,n,m=>by
  have ih:=B4s s es (n+1) (m+1);simp only[A2x,List.zipIdx_cons,X8,Instr.findNow,Instr.sameNow,if_true]at ih |-;have e1:(s==u)=decide (u=s):=by
   rw[A2I];constructor
   ·intro h
    exact decide_eq_true (by simpa using h:s=u).symm
   ·intro h
    rw[of_decide_eq_true h];simp
  rw[e1,A6z];cases hd:decide (u=s) with
  |true=>simp
  |false=>
   simp only
   rw[ih]
   congr 1
   cases hf:es.findIdx? (fun p=>decide (p.1=s)) with
   |none=>simp
   |some i=>simp[A3M,Nat.add_left_comm]
section
variable {P:Program}{N:Nat}{ds:List Deferred}{Q:Exit->Act->World->Prop}{l l':Log}{w w':World}{ops:Array Oper}{os:List Oper}{o:Oper}
variable {d:Nat}{ty:TypeId}{pos:String}{af:Array Edge}{g:Option (Nat×Bool)}{t t':TypeId}{x y z:Operand}{E:Ent}{I:P6}{H:List HItem}
def B1z (es:A1N) (s:Int) (z:Value):Value:=((es.find? (fun p=>decide (p.1=s))).map (·.2)).getD z
theorem C05 (es:A1N) (s:Int):(es.findIdx? (fun p=>decide (p.1=s))).bind (fun i=>(es[i]?).map (·.2))=(es.find? (fun p=>decide (p.1=s))).map (·.2):=by
 induction es with
 |nil=>rfl
 |cons p es ih=>
  rw[A6z,A3J];cases hd:decide (p.1=s) with
  |true=>simp
  |false=>
   simp only[A6y,if_false];rw[<-ih];cases es.findIdx? (fun p=>decide (p.1=s))<;>simp
theorem B0X {kt:TypeId} (hk:P.underlying kt=some (.int .i64)) (s:Int) (es:A1N) (n:Nat):
  (Instr.findKey kt (A7c s) (A2x es n)).run P w=.ok ((es.findIdx? (fun p=>decide (p.1=s))).bind (fun i=>(es[i]?).map (fun p=>(0+i,p.2)))) w:=by
 have h1:=run_underlying (P:=P) (w:=w) hk;simp only[Instr.findKey,Sem.run_bind,h1,Result.andThen_ok,B4s];simp
theorem A9X {kt:TypeId} (hk:P.underlying kt=some (.int .i64)) (s:Int) (b:Bool):(Instr.checkKey b 10000 kt (A7c s)).run P w=.ok () w:=by
 have h1:=run_underlying (P:=P) (w:=w) hk;show (Instr.checkKey b (9999+1) kt (A7c s)).run P w=.ok () w
 rw[Instr.checkKey];simp[h1]
theorem A9f {kt et:TypeId} [TyMap P t kt et] [TyInt P kt .i64] {b:Nat}{es:A1N}{s:Int}{zv:Value}{a:Act} (ha:Fits N ds l a)
  (hx:ev l x=some (.map (some b))) (hy:ev l y=some (A7c s)) (hm:w.heap[b]?=some (.map (A2x es 0).toArray es.length)) (hz:∀w,(zeroValue et).run P w=.ok zv w):
  (execOp a.eval ⟨some d,.lookup t x y false,ty,pos,af,g⟩).run P w=.ok (.value (B1z es s zv)) w:=by
 have h1:=run_underlying (P:=P) (w:=w) (TyMap.out (P:=P) (t:=t));have hk:=TyInt.out (P:=P) (t:=kt);have h2:=B0X (P:=P) (w:=w) hk s es 0;have h3:=fun b=>A9X (P:=P) (w:=w) hk s b
 have h4:=MapKept.run_getObj_map (P:=P) hm;have h5:=C05 es s;rw[B1z, <-h5];cases hf:es.findIdx? (fun p=>decide (p.1=s)) with
 |none=>
  rw[hf]at h2;simp[execOp,Instr.lookup,ha.ev hx,ha.ev hy,h1,h4,h3,h2,hz]
 |some i=>
  rw[hf]at h2;have hi:i<es.length:=by
   have:=A2q.1 hf;exact this.1
  have hg:es[i]?=some es[i]:=G6 hi;simp only[A1m,hg,A17]at h2;simp[execOp,Instr.lookup,ha.ev hx,ha.ev hy,h1,h4,h3,h2,hg]
abbrev HItem.mz (b:Nat) (es:A1N):HItem:=.obj b (.map (A2x es 0).toArray es.length)
def A5Q (es:A1N) (s:Int) (v:Value):A1N:=match es.findIdx? (fun p=>decide (p.1=s)) with
 |some i=>es.set i (s,v)
 |none=>es++ [(s,v)]
theorem B0F (es:A1N) (i:Nat) (s:Int) (v:Value):(A2x es 0).toArray.modify i (fun e=> { e with key:=A7c s,val:=v})=(A2x (es.set i (s,v)) 0).toArray:=by
 apply A6w
 intro j;rw[A2P];simp only[A2x,A2O,A0f,A6v,A2d];by_cases h:i=j
 ·subst h
  rw[if_pos rfl,if_pos rfl];by_cases h2:i<es.length
  ·rw[if_pos h2,G6 h2];rfl
  ·rw[if_neg h2,A07 (by omega)];rfl
 ·rw[if_neg h,if_neg h]
theorem B7r {es:A1N}{s:Int}{v:Value} (h:(es.map (·.1)).Nodup):((A5Q es s v).map (·.1)).Nodup:=by
 rw[A5Q];cases hf:es.findIdx? (fun p=>decide (p.1=s)) with
 |some i=>
  obtain⟨hi,hs,_⟩:=A2q.1 hf;have hs':es[i].1=s:=by simpa using hs
  have:(es.set i (s,v)).map (·.1)=es.map (·.1):=by
   apply A3T
   intro j;simp only[A0f,A2d];split
   ·rename_i h
    subst h;rw[G6 hi];simp[hs']
   ·rfl
  dsimp only
  rw[this];exact h
 |none=>
  dsimp only
  rw[Y8,A5w];refine⟨h,by simp,fun a h1 b h2=>?_⟩
  simp only[X8,List.map_nil,A0v]at h2;subst h2;rintro rfl;obtain⟨p,hp,hps⟩:=A0x.1 h1;have:=A3L.1 hf p hp;simp[hps]at this
def A8x (es:A1N) (s:Int):Option Value:=(es.find? (fun p=>decide (p.1=s))).map (·.2)
theorem B5t {es:A1N}{s:Int}{v:Value} (n:Int) (h:A8x es s=none):A8x (es++ [(s,v)]) n=if n=s then some v else A8x es n:=by
 simp only[A8x]at h |-;rw[List.find?_append];by_cases e:n=s
 ·subst e
  rw[if_pos rfl,Option.map_eq_none_iff.1 h];simp
 ·rw[if_neg e]
  cases hf:es.find? (fun p=>decide (p.1=n)) with
  |some p=>rfl
  |none=>simp[Ne.symm e]
theorem B4F:∀ {es:A1N}{i:Nat}{s:Int}{v:Value} (n:Int),(es.map (·.1)).Nodup->(∃c,es[i]?=some (s,c))->A8x (es.set i (s,v)) n=if n=s then some v else A8x es n
 | [],i,s,v,n,_,h=>by obtain⟨_,h⟩:=h;simp at h
 |(a,c)::es,0,s,v,n,_,h=>by
  obtain⟨_,h⟩:=h;simp only[A0A,U3,Prod.mk.injEq]at h;obtain⟨rfl,_⟩:=h;simp only[A8x,A7Y,A3J];by_cases e:n=a
  ·subst e;simp
  ·rw[if_neg e,decide_eq_false (Ne.symm e)]
 |(a,c)::es,i+1,s,v,n,hn,h=>by
  obtain⟨c',h⟩:=h;rw[A0E]at h;rw[X8,List.nodup_cons]at hn;have ih:=B4F (v:=v) n hn.2 ⟨c',h⟩;have has:a≠s:=by
   rintro rfl;exact hn.1 (A5s (f:=(·.1)) (A0B h))
  simp only[A8x,A7X,A3J]at ih |-;by_cases e:a=n
  ·subst e
   rw[decide_eq_true rfl,if_neg has]
  ·rw[decide_eq_false e]
   exact ih
theorem B86 {es:A1N}{s:Int}{v:Value} (n:Int) (hn:(es.map (·.1)).Nodup):A8x (A5Q es s v) n=if n=s then some v else A8x es n:=by
 rw[A5Q];cases hf:es.findIdx? (fun p=>decide (p.1=s)) with
 |some i=>
  obtain⟨hi,hs,_⟩:=A2q.1 hf;have hs':es[i].1=s:=by simpa using hs
  exact B4F n hn ⟨es[i].2,by rw[G6 hi, <-hs']⟩
 |none=>
  refine B5t n ?_
  rw[A3L]at hf;simp only[A8x,Option.map_eq_none_iff,List.find?_eq_none];intro p hp;simpa using hf p hp
end
section
variable {P:Program}{N:Nat}{ds:List Deferred}{Q:Exit->Act->World->Prop}{K:Act->World->Prop}{KV:Act->Prop}{l:Log}{w w0:World}{ops:Array Oper}{os os' tail:List Oper}{X:List Nat}
variable {d:Nat}{ty:TypeId}{pos:String}{af:Array Edge}{g:Option (Nat×Bool)}{t:TypeId}{x y z:Operand}{E:Ent}{I I0:P6}{H G R:List HItem}{n f:Nat}{listed:Array Bool}
theorem A73 {kt et:TypeId} [TyMap P t kt et] [TyInt P kt .i64] {i b:Nat}{es:A1N}{s:Int}{zv:Value} (hm:Mem E I H w) (hw:U4 ops l ⟨some d,.lookup t x y false,ty,pos,af,g⟩=some true) (hN:Nat.blt d N=true)
  (hx:ev l x=some (.map (some b))) (hy:ev l y=some (A7c s)) (hi:H[i]?=some (.mz b es)) (hz:∀w,(zeroValue et).run P w=.ok zv w)
  (k:WQ P N ds ops w K os ((d,B1z es s zv)::l)):WQ P N ds ops w K (⟨some d,.lookup t x y false,ty,pos,af,g⟩::os) l:=by
 have hg:=hm.get hi;exact A0X rfl hw hN (fun w' hkq a ha=>A9f ha hx hy (by rw[hkq.blk b (A2v hg) (by simp)];exact hg) hz) k
theorem B3o {kt et:TypeId} [TyMap P t kt et] [TyInt P kt .i64] {i b:Nat}{es:A1N}{s:Int}{zv:Value} (hR:Mem E I (G++R) w) (hw:U4 ops l ⟨some d,.lookup t x y false,ty,pos,af,g⟩=some true) (hN:Nat.blt d N=true)
  (hx:ev l x=some (.map (some b))) (hy:ev l y=some (A7c s)) (hi:R[i]?=some (.mz b es)) (hz:∀w,(zeroValue et).run P w=.ok zv w)
  (k:WV P N ds ops (A2p G) w KV os ((d,B1z es s zv)::l)):WV P N ds ops (A2p G) w KV (⟨some d,.lookup t x y false,ty,pos,af,g⟩::os) l:=by
 have hg:=hR.right.get hi;have hnG:=hR.notG hi rfl;exact A1y rfl hw hN (fun w' hkq a ha=>A9f ha hx hy (by rw[hkq.blk b (A2v hg) hnG];exact hg) hz) k
theorem B5S {kt et:TypeId} [TyMap P t kt et] [TyInt P kt .i64] {b:Nat}{es:A1N}{s:Int}{zv:Value} (hb:w.heap[b]?=some (.map (A2x es 0).toArray es.length)) (_:(es.map (·.1)).Nodup) (hz:∀w,(zeroValue et).run P w=.ok zv w):
  ∃(es1:A1N) (j:Nat) (u:Value) (w':World),(Instr.mapEntry t (.map (some b)) (A7c s)).run P w=.ok (.tuple #[u,.int .i64 (j:Int)]) w'/\w'.heap[b]?=some (.map (A2x es1 0).toArray es1.length)/\Kept [b] w w'/\es1[j]?=some (s,u)/\∀v,es1.set j (s,v)=A5Q es s v:=by
 have h1:=run_underlying (P:=P) (w:=w) (TyMap.out (P:=P) (t:=t));have hk:=TyInt.out (P:=P) (t:=kt);have h2:=B0X (P:=P) (w:=w) hk s es 0;have h3:=A9X (P:=P) (w:=w) hk s false;have h4:=MapKept.run_getObj_map (P:=P) hb;have h5:=fun o'=>MapKept.run_setObj_map (P:=P) o' hb
 have hlt:=A2v hb;cases hf:es.findIdx? (fun p=>decide (p.1=s)) with
 |none=>
  rw[hf]at h2;have e1:(A2x (es++ [(s,zv)]) 0).toArray=(A2x es 0).toArray.push { key:=A7c s,val:=zv,born:=es.length}:=by
   simp[A2x,List.zipIdx_append]
  refine⟨es++ [(s,zv)],es.length,zv, { w with heap:=w.heap.setIfInBounds b (.map ((A2x es 0).toArray.push { key:=A7c s,val:=zv,born:=es.length}) (es.length+1))},?_,?_,⟨rfl,rfl,rfl,by simp,fun i hi hx=>?_⟩,by simp,fun v=>?_⟩
  ·simp only[Instr.mapEntry,Sem.run_bind,h1,Result.andThen_ok,h4,h3,h2,Option.bind_none,hz,h5,Sem.run_pure]
   rfl
  ·rw[e1,E9]
   simp[hlt]
  ·have:b≠i:=by rintro rfl;simp at hx
   simp[A5n this]
  ·rw[A5Q,hf]
   simp
 |some j=>
  obtain⟨hj,hsj,_⟩:=A2q.1 hf;have hsj':es[j].1=s:=by simpa using hsj
  rw[hf]at h2;have hg:es[j]?=some es[j]:=G6 hj;simp only[A1m,hg,A17,V6]at h2;have hkey:(A2x es 0).toArray[j]?=some { key:=A7c s,val:=es[j].2,born:=j}:=by
   simp[A2x,hg,hsj']
  have h6:(Instr.keyThatStays (A7c s) (A7c s)).run P w=.ok (A7c s) w:=by
   have:Instr.sameBits 10000 (A7c s) (A7c s)=true:=by simp[Instr.sameBits]
   simp[Instr.keyThatStays,this]
  have e2:=B0F es j s es[j].2;have e3:es.set j (s,es[j].2)=es:=by
   apply A3T
   intro i;rw[A2d];by_cases e:j=i
   ·subst e
    rw[if_pos rfl,if_pos hj,hg, <-hsj']
   ·rw[if_neg e]
  have e4:((A2x es 0).toArray.modify j fun e=> { e with key:=A7c s})=(A2x es 0).toArray:=by
   rw[<-A70];apply A3T
   intro i;rw[A7U,A7U,A2P];by_cases e:j=i
   ·subst e
    rw[if_pos rfl,hkey];rfl
   ·rw[if_neg e]
  refine⟨es,j,es[j].2, { w with heap:=w.heap.setIfInBounds b (.map (A2x es 0).toArray es.length)},?_,by simp[hlt],⟨rfl,rfl,rfl,by simp,fun i hi hx=>?_⟩,by rw[hg, <-hsj'],fun v=>by rw[A5Q,hf]⟩
  ·simp only[Instr.mapEntry,Sem.run_bind,h1,Result.andThen_ok,h4,h3,h2,hkey,A17,Option.getD_some,h6,h5,Sem.run_pure]
   rw[e4]
   rfl
  ·have:b≠i:=by rintro rfl;simp at hx
   simp[A5n this]
theorem B5u {kt et:TypeId} [TyMap P t kt et] [TyInt P kt .i64] {i b:Nat}{es:A1N}{s:Int}{zv:Value} (hm:Mem ⟨w0,X,I0⟩ I H w) (hw:U4 ops l ⟨some d,.mapEntry t x y,ty,pos,af,g⟩=some true) (hN:Nat.blt d N=true)
  (hx:ev l x=some (.map (some b))) (hy:ev l y=some (A7c s)) (hi:H[i]?=some (.mz b es)) (hn:(es.map (·.1)).Nodup) (hz:∀w,(zeroValue et).run P w=.ok zv w)
  (k:∀(es1:A1N) (j:Nat) (u:Value) (w':World),es1[j]?=some (s,u)->(∀v,es1.set j (s,v)=A5Q es s v)->Mem ⟨w0,X,I0⟩ I (H.set i (.mz b es1)) w'->WA P N ds ops Q X w0 n f listed tail ((d,.tuple #[u,.int .i64 (j:Int)])::l) w'):
  WU P N ds ops Q X w0 n f listed tail ⟨some d,.mapEntry t x y,ty,pos,af,g⟩ l w:=by
 obtain⟨es1,j,u,w',hr,hh,hk,hj,hp⟩:=B5S (P:=P) (t:=t) (s:=s) (hm.get hi) hn hz;have hm':=hm.turn (h':=.mz b es1) hi (by simpa[HItem.blk] using hk) hh (.inl rfl);refine A3q (w':=w') rfl hw hN (fun a ha=>?_) hm'.kept (k es1 j u w' hj hp hm')
 simp[execOp,ha.ev hx,ha.ev hy,hr]
theorem B9Q {m:Nat}{vs:Array Value}{v:Value} (hC:Kept X w0 w) (hw:U4 ops l ⟨some d,.extract x m,ty,pos,af,g⟩=some true) (hN:Nat.blt d N=true)
  (hx:ev l x=some (.tuple vs)) (hv:vs[m]?=some v) (k:WA P N ds ops Q X w0 n f listed tail ((d,v)::l) w):WU P N ds ops Q X w0 n f listed tail ⟨some d,.extract x m,ty,pos,af,g⟩ l w:=
 A3q (w':=w) rfl hw hN (fun a ha=>by simp[execOp,ha.ev hx,Instr.extract,hv]) hC k
theorem C2p (es:A1N) {j:Nat} (hj:j<es.length):(A2x es 0).toArray.findIdx? (fun e=>(e.born:Int)==(j:Int))=some j:=by
 rw[List.findIdx?_toArray,A2q];have hl:(A2x es 0).length=es.length:=by simp[A2x]
 refine⟨by omega,by simp[A2x],fun i hi=>?_⟩
 simp[A2x];omega
theorem B3n {i b j:Nat}{es es1:A1N}{s:Int}{u v:Value}{dst:Option Nat} (hm:Mem ⟨w0,X,I0⟩ I H w) (hd:dst=none) (hw:U4 ops l ⟨dst,.entryStore t x y z,ty,pos,af,g⟩=some true)
  (hx:ev l x=some (.map (some b))) (hy:ev l y=some (.int .i64 (j:Int))) (hz:ev l z=some v) (hi:H[i]?=some (.mz b es1)) (hj:es1[j]?=some (s,u)) (hp:∀v,es1.set j (s,v)=A5Q es s v)
  (k:∀w',Mem ⟨w0,X,I0⟩ I (H.set i (.mz b (A5Q es s v))) w'->WA P N ds ops Q X w0 n f listed tail l w'):
  WU P N ds ops Q X w0 n f listed tail ⟨dst,.entryStore t x y z,ty,pos,af,g⟩ l w:=by
 subst hd;have hb:=hm.get hi;have hlt:=A2v hb;have h4:=MapKept.run_getObj_map (P:=P) hb;have h5:=fun o'=>MapKept.run_setObj_map (P:=P) o' hb
 have hjl:=(A0t.1 hj).1;have h6:=C2p es1 hjl;have e1:((A2x es1 0).toArray.modify j fun e=> { e with val:=v})=(A2x (A5Q es s v) 0).toArray:=by
  rw[<-hp v, <-B0F es1 j s v, <-A70];apply A3T
  intro i;rw[A7U,A7U,A2P,A2P];by_cases e:j=i
  ·subst e
   rw[if_pos rfl,if_pos rfl];simp[A2x,hj]
  ·rw[if_neg e,if_neg e]
 have hl:es1.length=(A5Q es s v).length:=by rw[<-hp v,A2n]
 have hkept:Kept [b] w { w with heap:=w.heap.setIfInBounds b (.map (A2x (A5Q es s v) 0).toArray (A5Q es s v).length)}:=
  ⟨rfl,rfl,rfl,by simp,fun i hi hx=>by
   have:b≠i:=by rintro rfl;simp at hx
   simp[A5n this]⟩
 have hm':=hm.turn (h':=.mz b (A5Q es s v)) hi (by simpa[HItem.blk] using hkept) (by
  show HItem.ok _ _
  simp[HItem.ok,hlt]) (.inl rfl)
 rw[hl]at h4;refine B2D rfl hw (fun a ha=>?_) hm'.kept (k _ hm')
 simp[execOp,Instr.entryStore,ha.ev hx,ha.ev hy,ha.ev hz,h4,asInt,asIntOf,h6,e1,h5]
end
section
variable {P:Program}{N:Nat}{ds:List Deferred}{Q:Exit->Act->World->Prop}{l l':Log}{w w':World}{ops:Array Oper}{os:List Oper}
variable {d:Nat}{ty:TypeId}{pos:String}{af:Array Edge}{g:Option (Nat×Bool)}{t t':TypeId}{x y z:Operand}
variable {E:Ent}{I I':P6}{H H' R:List HItem}
theorem Mem.rowAddr {e:TypeId}{sz n cap:Nat}{a:Option Addr}{xs:List Value} (hm:Mem E I (.row (.slice a n cap) e sz n xs::H) w) (hn:0<n):∃b,a=some ⟨b,0,none⟩:=by
 obtain⟨b,cp,cur,hv,_⟩:=hm.openRow hn;injection hv with h1 _ _
 exact⟨b,h1⟩
theorem Mem.rowLen {e:TypeId}{sz n:Nat}{v:Value}{xs:List Value} (hm:Mem E I (.row v e sz n xs::H) w):xs.length=n *sz:=(hm.ok _ Q7).1
theorem A20 [TyOne P t] {b off n cap sz:Nat}{e:TypeId}{xs:List Value}{v:Value} (hm:Mem E I (.row (.slice (some ⟨b,0,none⟩) n cap) e sz n xs::H) w) (hw:U4 ops l ⟨some d,.load t x,ty,pos,af,g⟩=some true) (hN:Nat.blt d N=true)
  (hx:ev l x=some (.pointer (some ⟨b,off,none⟩))) (hc:xs[off]?=some v) (k:WL P N ds ops Q os ((d,v)::l) w):
  WL P N ds ops Q (⟨some d,.load t x,ty,pos,af,g⟩::os) l w:=by
 have h0:=hm.rowLen;have hlt:off<xs.length:=(A0t.1 hc).1;rcases A4B n with hn|hn
 ·subst hn;rw[A1n]at h0;omega
 obtain⟨b',cp,cur,hv,hm2,hcp,hcm,hs,ht⟩:=hm.openRow hn;injection hv with h1 _ _
 injection h1 with h1
 injection h1 with h1
 subst h1;refine A44 hw hN hx (hm2.ok _ Q7) ?_ k
 rw[<-ht,A1L]at hc;split at hc
 ·simpa using hc
 ·cases hc
theorem B3m {by_:Nat} [Elem P t 1 by_] {b off n cap sz:Nat}{e:TypeId}{xs:List Value}{v:Value}{dst:Option Nat} (hm:Mem E I (.row (.slice (some ⟨b,0,none⟩) n cap) e sz n xs::H) w) (hd:dst=none) (hw:U4 ops l ⟨dst,.store t x y,ty,pos,af,g⟩=some true)
  (hx:ev l x=some (.pointer (some ⟨b,off,none⟩))) (hy:ev l y=some v) (hn1:v.cells.toList= [v]) (h1:v.oneCell'=true) (ho:off<xs.length)
  (k:∀w',Mem E I (.row (.slice (some ⟨b,0,none⟩) n cap) e sz n (xs.set off v)::H) w'->WL P N ds ops Q os l w'):
  WL P N ds ops Q (⟨dst,.store t x y,ty,pos,af,g⟩::os) l w:=by
 have h0:=hm.rowLen;rcases A4B n with hn|hn
 ·subst hn;rw[A1n]at h0;omega
 obtain⟨b',cp,cur,hv,hm2,hcp,hcm,hs,ht⟩:=hm.openRow hn;injection hv with e1 _ e3
 injection e1 with e1
 injection e1 with e1
 subst e1;subst e3;obtain⟨cL,rfl⟩:∃cL:List Value,cur=cL.toArray:=⟨cur.toList,by simp⟩;have hs':cL.length=cap *sz:=by simpa using hs
 have ht':cL.take (n *sz)=xs:=by simpa using ht
 have hle:n *sz<=cap *sz:=A3Q _ hcp;refine O6 (i:=0) hm2 hd hw hx hy rfl hn1 (by rw[A1x];omega) h1 (fun w2 hm3=>k w2 ?_)
 have hm4:Mem E I (.obj b (.cells (cL.set off v).toArray e (0,0))::H) w2:=hm3;exact hm4.shutRow hcp hcm (by simpa using hs') (by simp only;rw[List.take_set,ht'])
end
theorem B3Z {r:HItem}{A B C D:List HItem}:(r::(A++((B++C)++D))).Perm (B++(r::(A++(C++D)))):=by
 have h1:(A++((B++C)++D)).Perm (B++(A++(C++D))):=by
  rw[O3];exact(A6e A B (C++D))
 exact(h1.cons r).trans (List.perm_middle (l₁:=B) (a:=r) (l₂:=A++(C++D))).symm
theorem C5B {r:HItem}{A B C D:List HItem}:(B++(r::(A++(C++D)))).Perm (C++(r::(A++(B++D)))):=by
 have h1:(B++(r::(A++(C++D)))).Perm (r::(B++(A++(C++D)))):=List.perm_middle;have h2:(B++(A++(C++D))).Perm (C++(A++(B++D))):=by
  refine(A6e B A (C++D)).trans ?_
  refine((A6e B C D).append_left A).trans ?_
  exact A6e A C (B++D)
 exact h1.trans ((h2.cons r).trans (List.perm_middle (l₁:=C) (a:=r) (l₂:=A++(B++D))).symm)
theorem C7f {r:HItem}{A B C D:List HItem}:(C++(r::(A++(B++D)))).Perm (r::(A++((B++C)++D))):=
 C5B.trans B3Z.symm
section
variable {P:Program}{N:Nat}{ds:List Deferred}{Q:Exit->Act->World->Prop}{K:Act->World->Prop}{KV:Act->Prop}{l l':Log}{w w' w0:World}{ops:Array Oper}{os:List Oper}
variable {d:Nat}{ty:TypeId}{pos:String}{af:Array Edge}{g:Option (Nat×Bool)}{t t':TypeId}{x y z:Operand}
variable {E:Ent}{I I':P6}{H H' R G:List HItem}
class Zero1 (P:Program) (e:TypeId) (v:Value):Prop where out:(P.info? e).bind (·.zero)=some v/\v.cells= #[v]
theorem B1W {e:TypeId}{by_ n:Nat} (zv:Value) [TySlice P t e] [Elem P e 1 by_] (hz0:Zero1 P e zv) (hm:Mem E I H w) (hw:U4 ops l ⟨some d,.makeSlice t x y,ty,pos,af,g⟩=some true) (hN:Nat.blt d N=true)
  (hx:ev l x=some (.int .i64 n)) (hy:ev l y=some (.int .i64 n)) (hn:n<=1000000) (hby:Nat.ble by_ 1024=true)
  (k:∀b w',Mem E I (.row (.slice (some ⟨b,0,none⟩) n n) e 1 n (List.replicate n zv)::H) w'->WL P N ds ops Q os ((d,.slice (some ⟨b,0,none⟩) n n)::l) w'):
  WL P N ds ops Q (⟨some d,.makeSlice t x y,ty,pos,af,g⟩::os) l w:=by
 obtain⟨i,z,hi',hz,hs',hb',hzc,hpos⟩:=Elem.out (P:=P) (e:=e);obtain⟨h1,h2⟩:=hz0.out;rw[hi',A1m,hz]at h1;obtain rfl:=A0Y h1;have hby':=A13 hby;have hbn:by_ *n<=1024 *1000000:=Nat.mul_le_mul hby' hn;have hr:=run_makeSlice (P:=P) (w:=w) t e i z (TySlice.out (P:=P) (t:=t)) hi' hz .i64 .i64 n n (by omega) (by omega) (by rw[hs',A1v];omega)
  (by rw[hb'];have:((by_ *n:Nat):Int)<=281474976710656:=(by omega);simpa using this) (by omega)
 rw[hs',h2,A1v,A2J]at hr;have hmc:madeCells #[z] n=(List.replicate n z).toArray:=by
  apply A70.1
  rw[toList_madeCells_one]
 rw[hmc]at hr;refine U6 (w':=w.alloc (.cells (List.replicate n z).toArray e (0,0))) (v:=.slice (some ⟨w.heap.size,0,none⟩) n n) rfl hw hN (fun a ha=>?_)
  (k w.heap.size _ (hm.add (Kept.alloc w _) ⟨by simp,.inr ⟨w.heap.size,n,_,rfl,H7 _,heap_alloc_new w _,G9 _,by unfold maxLen;omega,by simp,by simp⟩⟩ (fun b' hb'=>?_)))
 ·simp only[execOp,ha.ev hx,ha.ev hy]
  simp[hr]
 ·simp only[HItem.blk,Value.ownBlock,U3]at hb';omega
theorem Mem.rowCell {e:TypeId}{sz n cp b off:Nat}{xs:List Value}{v:Value} (ho:(HItem.row (.slice (some ⟨b,0,none⟩) n cp) e sz n xs).ok w) (hc:xs[off]?=some v):
  ∃c fr,w.heap[b]?=some (.cells c e fr)/\c[off]?=some v:=by
 rcases ho.2 with ⟨_,h0⟩|⟨g,cap,cur,hv,_,hg,_,_,_,ht⟩
 ·have h1:=ho.1
  subst h0;rw[A1n]at h1;have:off<xs.length:=(A0t.1 hc).1;omega
 ·injection hv with e1 _ _
  injection e1 with e1
  injection e1 with e1
  subst e1;refine⟨cur,(0,0),hg,?_⟩
  rw[<-ht,A1L]at hc;split at hc
  ·simpa using hc
  ·cases hc
theorem B9a [TyOne P t] {i b off n cp sz:Nat}{e:TypeId}{xs:List Value}{v:Value} (hm:Mem E I H w) (hw:U4 ops l ⟨some d,.load t x,ty,pos,af,g⟩=some true) (hN:Nat.blt d N=true)
  (hx:ev l x=some (.pointer (some ⟨b,off,none⟩))) (hb:H[i]?=some (.row (.slice (some ⟨b,0,none⟩) n cp) e sz n xs)) (hc:xs[off]?=some v)
  (k:WQ P N ds ops w K os ((d,v)::l)):WQ P N ds ops w K (⟨some d,.load t x,ty,pos,af,g⟩::os) l:=by
 obtain⟨c,fr,h1,h2⟩:=Mem.rowCell (hm.ok _ (A0B hb)) hc;exact B2y hw hN hx h1 h2 k
theorem A0U [TyOne P t] {i b off n cp sz:Nat}{e:TypeId}{xs:List Value}{v:Value} (hm:Mem E I H w) (hw:U4 ops l ⟨some d,.load t x,ty,pos,af,g⟩=some true) (hN:Nat.blt d N=true)
  (hx:ev l x=some (.pointer (some ⟨b,off,none⟩))) (hb:H[i]?=some (.row (.slice (some ⟨b,0,none⟩) n cp) e sz n xs)) (hc:xs[off]?=some v)
  (k:WL P N ds ops Q os ((d,v)::l) w):WL P N ds ops Q (⟨some d,.load t x,ty,pos,af,g⟩::os) l w:=by
 obtain⟨c,fr,h1,h2⟩:=Mem.rowCell (hm.ok _ (A0B hb)) hc;exact A44 hw hN hx h1 h2 k
theorem A5P {by_:Nat} [Elem P t 1 by_] {i b off n cap sz:Nat}{e:TypeId}{xs:List Value}{v:Value}{dst:Option Nat} (hm:Mem E I H w) (hd:dst=none) (hw:U4 ops l ⟨dst,.store t x y,ty,pos,af,g⟩=some true)
  (hx:ev l x=some (.pointer (some ⟨b,off,none⟩))) (hy:ev l y=some v) (hi:H[i]?=some (.row (.slice (some ⟨b,0,none⟩) n cap) e sz n xs)) (hn1:v.cells.toList= [v]) (h1:v.oneCell'=true) (ho:off<xs.length)
  (k:∀w',Mem E I (H.set i (.row (.slice (some ⟨b,0,none⟩) n cap) e sz n (xs.set off v))) w'->WL P N ds ops Q os l w'):
  WL P N ds ops Q (⟨dst,.store t x y,ty,pos,af,g⟩::os) l w:=by
 refine B3m (hm.front i hi) hd hw hx hy hn1 h1 ho (fun w2 hm2=>k w2 (hm2.perm ?_))
 have hlt:i<H.length:=(A0t.1 hi).1;have h:=A7I (H.set i (.row (.slice (some ⟨b,0,none⟩) n cap) e sz n (xs.set off v))) i _ (A5p hlt);rw[List.eraseIdx_set_eq]at h;exact h.symm
end
abbrev Tri (α:Type):=List α×Option Addr×Nat
abbrev Tri.nil {α:Type}:Tri α:=([],none,0)
abbrev A2w {α:Type} (t:Tri α):Value:=.slice t.2.1 t.1.length t.2.2
abbrev sl0:Value:=.slice none 0 0
theorem B7m {α β:Type}{g:α->β}{T:List α}{i:Nat}{u:α}:(T.map g).set i (g u)=(T.set i u).map g:=by rw[List.map_set]
theorem B78 {α β:Type}{g:α->β}{T:List α}{i:Nat}{t:α} (h:T[i]?=some t):(T.map g).Perm (g t::(T.eraseIdx i).map g):=by
 have h2:=(Go.Fw.A7I T i t h).map g;exact h2
theorem C58 {α β:Type}{g:α->β}{T:List α}{i:Nat}{u:α} (h:i<T.length):((T.set i u).map g).Perm (g u::(T.eraseIdx i).map g):=by
 have h2:=B78 (g:=g) (T:=T.set i u) (i:=i) (t:=u) (A5p h);rw[List.eraseIdx_set_eq]at h2;exact h2
abbrev A8D (L:List Value) (n:Nat):List Value:=L++List.replicate n sl0
theorem C3U {L:List Value}{n m:Nat}{v:Value} (hl:L.length=m):(A8D L (n+1)).set m v=A8D (L++ [v]) n:=by
 subst hl;rw[A8D,A5L,if_neg (Nat.lt_irrefl _),A3N,List.replicate_succ,A7Y,A8D,O3];rfl
theorem B4J {L:List Value}{n:Nat}:A8D L (n+1)=A8D (L++ [sl0]) n:=by
 rw[A8D,A8D,List.replicate_succ,O3];rfl
def B36 (I:P6) (b:Nat) (es:A1N):Prop:=I b=some (.map (A2x es 0).toArray es.length)
theorem B36.le {I I':P6}{b:Nat}{es:A1N} (h:B36 I b es) (hl:Le I I'):B36 I' b es:=hl _ _ h
theorem Mem.freezeMZ {E:Ent}{I:P6}{H:List HItem}{w:World}{b:Nat}{es:A1N} (hm:Mem E I (.mz b es::H) w):∃I',Le I I'/\Mem E I' H w/\B36 I' b es:=by
 have hf:=hm.free _ Q7 b rfl;exact⟨I.add b (.map (A2x es 0).toArray es.length),Le.add hf,hm.tl.freezeB (hm.ok _ Q7) hf (hm.born _ Q7 b rfl) (fun h hh e=>(A1u.1 hm.dist).1 h hh b rfl e),P6.add_self _ _ _⟩
theorem CalM.lend {P:Program}{f:FuncId}{args:Array Value}{I:P6}{B H:List HItem}{Post:Value->List HItem->Prop}{QJ:P6->Prop}
  (hJ:∀E w,Mem E I (B++H) w->∃J,Le I J/\Mem E J H w/\QJ J) (hc:∀J,Le I J->QJ J->CalM P f args J H (fun v _ H'=>Post v H')):
  CalM P f args I (B++H) (fun v _ H'=> ∃H'',H'=B++H''/\Post v H''):=by
 refine CalM.of fun w E hm=>?_
 obtain⟨J,hl,hmJ,hq⟩:=hJ E w hm;have hcr:=(hc J hl hq).run w ⟨Kept.refl _ _,Le.refl _,hmJ.inv,hmJ.ok,hmJ.free,fun x hx c hc=> .inl (by simp only[A2p,A6x];exact⟨x,hx,hc⟩),hmJ.dist,fun _ _ h=> .inl h⟩;refine hcr.mono fun v w' ⟨J',H',hP,h2⟩=>⟨I,B++H',⟨H',rfl,hP⟩,?_⟩
 have h3:Mem E J' H' w':=by simpa using (Mem.back (R:= []) (by simpa using hmJ) h2)
 have hl':Le I J':=hl.trans h2.le;have hBH:∀x∈B,∀b,x.blk=some b->b∉A2p H:=fun x hx b hb hbl=>by
  obtain⟨k,hk,hkb⟩:=A86 hbl;exact(A2t.1 hm.dist).2.2 x hx k hk b hb hkb
 refine⟨h3.kept,hm.le,fun c o hc=>h3.inv c o (hl' c o hc),fun x hx=>?_,fun x hx c hc=>?_,fun x hx c hc=>?_,A2t.2 ⟨(A2t.1 hm.dist).1,h3.dist,fun x hx y hy c hc hc'=>?_⟩,hm.grow⟩
 ·rcases A0d.1 hx with hx|hx
  ·exact(hm.ok x (A1J _ hx)).kept h2.kept (hBH x hx)
  ·exact h3.ok x hx
 ·rcases A0d.1 hx with hx|hx
  ·exact hm.free x (A1J _ hx) c hc
  ·have:=h3.free x hx c hc
   cases hI:I c with
   |none=>rfl
   |some o=>rw[hl' c o hI]at this;cases this
 ·rcases A0d.1 hx with hx|hx
  ·exact hm.born x (A1J _ hx) c hc
  ·exact h3.born x hx c hc
 ·have hlt:=(hm.ok x (A1J _ hx)).lt hc
  rcases h2.born y hy c hc' with h|h
  ·exact hBH x hx c hc h
  ·exact absurd hlt (Nat.not_lt.2 h)
section
variable {P:Program}{N:Nat}{ds:List Deferred}{Q:Exit->Act->World->Prop}{K:Act->World->Prop}{KV:Act->Prop}{l:Log}{w w0:World}{ops:Array Oper}{os tail:List Oper}{X:List Nat}
variable {d:Nat}{ty:TypeId}{pos:String}{af:Array Edge}{g:Option (Nat×Bool)}{t:TypeId}{x y:Operand}{E:Ent}{I I0:P6}{H G R:List HItem}{n f:Nat}{listed:Array Bool}
theorem B08 {i off:Nat} [Fld P t i off] {b o':Nat} (hC:Kept X w0 w) (hw:U4 ops l ⟨some d,.fieldAddr t x i,ty,pos,af,g⟩=some true) (hN:Nat.blt d N=true)
  (hx:ev l x=some (.pointer (some ⟨b,o',none⟩))) (k:WA P N ds ops Q X w0 n f listed tail ((d,.pointer (some ⟨b,o'+off,none⟩))::l) w):
  WU P N ds ops Q X w0 n f listed tail ⟨some d,.fieldAddr t x i,ty,pos,af,g⟩ l w:=
 A3q rfl hw hN (fun a ha=>by
  obtain⟨fs,f,inf,h1,h2,h3,h4,h5⟩:=Fld.out (P:=P) (t:=t) (i:=i);have h6:=run_underlying (P:=P) (w:=w) h1;simp[execOp,Instr.fieldAt,Instr.sureAddr,ha.ev hx,h6,h2,fieldPlace,sizeOf,typeInfo,h4,h5,h3,Addr.add_lit]) hC k
theorem B8m {p:Addr} (hC:Kept X w0 w) (hw:U4 ops l ⟨some d,.nilCheck x,ty,pos,af,g⟩=some true) (hN:Nat.blt d N=true)
  (hx:ev l x=some (.pointer (some p))) (k:WA P N ds ops Q X w0 n f listed tail ((d,.pointer (some p))::l) w):WU P N ds ops Q X w0 n f listed tail ⟨some d,.nilCheck x,ty,pos,af,g⟩ l w:=
 A3q rfl hw hN (fun c hc=>by simp[execOp,hc.ev hx]) hC k
theorem B4S [TyOne P t] {a:Act} (ha:Fits N ds l a) {b off:Nat}{c:Array Value}{e:TypeId}{fr:Nat×Nat}{v:Value} (hx:ev l x=some (.pointer (some ⟨b,off,none⟩))) (hb:w.heap[b]?=some (.cells c e fr)) (hc:c[off]?=some v):
  (execOp a.eval ⟨some d,.load t x,ty,pos,af,g⟩).run P w=.ok (.value v) w:=by
 obtain⟨dd,h1,h2⟩:=TyOne.out (P:=P) (t:=t);have h4:=A2j hb hc;simp[execOp,Instr.loadAt,Instr.sureAddr,loadVar,A36 h1,h2,ha.ev hx,load,Sem.run,h4]
theorem B9c [TyOne P t] {i b off m cp sz:Nat}{e:TypeId}{xs:List Value}{v:Value} (hm:Mem ⟨w0,X,I0⟩ I H w) (hw:U4 ops l ⟨some d,.load t x,ty,pos,af,g⟩=some true) (hN:Nat.blt d N=true)
  (hx:ev l x=some (.pointer (some ⟨b,off,none⟩))) (hb:H[i]?=some (.row (.slice (some ⟨b,0,none⟩) m cp) e sz m xs)) (hc:xs[off]?=some v)
  (k:WA P N ds ops Q X w0 n f listed tail ((d,v)::l) w):WU P N ds ops Q X w0 n f listed tail ⟨some d,.load t x,ty,pos,af,g⟩ l w:=by
 obtain⟨c,fr,h1,h2⟩:=Mem.rowCell (hm.ok _ (A0B hb)) hc;exact A3q rfl hw hN (fun a ha=>B4S ha hx h1 h2) hm.kept k
theorem C3z [TyOne P t] {i b off:Nat}{c:List Value}{e:TypeId}{fr:Nat×Nat}{v:Value} (hm:Mem ⟨w0,X,I0⟩ I H w) (hw:U4 ops l ⟨some d,.load t x,ty,pos,af,g⟩=some true) (hN:Nat.blt d N=true)
  (hx:ev l x=some (.pointer (some ⟨b,off,none⟩))) (hb:H[i]?=some (.obj b (.cells c.toArray e fr))) (hc:c[off]?=some v)
  (k:WA P N ds ops Q X w0 n f listed tail ((d,v)::l) w):WU P N ds ops Q X w0 n f listed tail ⟨some d,.load t x,ty,pos,af,g⟩ l w:=
 A3q rfl hw hN (fun a ha=>B4S ha hx (hm.get hb) (by simpa using hc)) hm.kept k
theorem B1B {i b off by_:Nat} [Elem P t 1 by_] {c:List Value}{e:TypeId}{v:Value}{dst:Option Nat} (hm:Mem ⟨w0,X,I0⟩ I H w) (hd:dst=none) (hw:U4 ops l ⟨dst,.store t x y,ty,pos,af,g⟩=some true)
  (hx:ev l x=some (.pointer (some ⟨b,off,none⟩))) (hy:ev l y=some v) (hb:H[i]?=some (.obj b (.cells c.toArray e (0,0)))) (hn:v.cells.toList= [v]) (ho:Nat.blt off c.length=true) (h1:v.oneCell'=true)
  (k:∀w',Mem ⟨w0,X,I0⟩ I (H.set i (.obj b (.cells (c.set off v).toArray e (0,0)))) w'->WA P N ds ops Q X w0 n f listed tail l w'):
  WU P N ds ops Q X w0 n f listed tail ⟨dst,.store t x y,ty,pos,af,g⟩ l w:=by
 subst hd;have hget:=hm.get hb;have hlt:off<c.length:=by simpa[A1x] using ho
 have h2:=A58 (P:=P) (t:=t) (off:=off) (n:=1) v hget (by rw[<-A5q,hn];rfl) (by simp;omega) (by rw[hn];simp[h1]);generalize hc':(c.toArray.toList.take off++v.cells.toList++c.toArray.toList.drop (off+1)).toArray=c' at h2;have e0:c'=(c.set off v).toArray:=by
  rw[<-hc',hn, <-C0y ho,O3]
 rw[e0]at h2;have hk:Kept [b] w (w.setRow b (c.set off v).toArray):=Kept.setRow hget _;have hm':=hm.turn (h':=.obj b (.cells (c.set off v).toArray e (0,0))) hb (by simpa[HItem.blk] using hk) (by
  show (w.setRow b (c.set off v).toArray).heap[b]?=_
  rw[setRow_heap w b c.toArray _ e (0,0) hget]) (.inl rfl)
 refine B2D rfl hw (fun a ha=>?_) hm'.kept (k _ hm')
 simp only[execOp,Instr.storeAt,Instr.sureAddr,ha.ev hx,ha.ev hy,Sem.run_bind,Sem.run_pure,Result.andThen,h2]
theorem B7u {by_:Nat} [Elem P t 1 by_] {b off m cap sz:Nat}{e:TypeId}{xs:List Value}{v:Value}{dst:Option Nat} (hm:Mem ⟨w0,X,I0⟩ I (.row (.slice (some ⟨b,0,none⟩) m cap) e sz m xs::H) w) (hd:dst=none) (hw:U4 ops l ⟨dst,.store t x y,ty,pos,af,g⟩=some true)
  (hx:ev l x=some (.pointer (some ⟨b,off,none⟩))) (hy:ev l y=some v) (hn1:v.cells.toList= [v]) (h1:v.oneCell'=true) (ho:off<xs.length)
  (k:∀w',Mem ⟨w0,X,I0⟩ I (.row (.slice (some ⟨b,0,none⟩) m cap) e sz m (xs.set off v)::H) w'->WA P N ds ops Q X w0 n f listed tail l w'):
  WU P N ds ops Q X w0 n f listed tail ⟨dst,.store t x y,ty,pos,af,g⟩ l w:=by
 have h0:=hm.rowLen;rcases A4B m with hn|hn
 ·subst hn;rw[A1n]at h0;omega
 obtain⟨b',cp,cur,hv,hm2,hcp,hcm,hs,ht⟩:=hm.openRow hn;injection hv with e1 _ e3
 injection e1 with e1
 injection e1 with e1
 subst e1;subst e3;obtain⟨cL,rfl⟩:∃cL:List Value,cur=cL.toArray:=⟨cur.toList,by simp⟩;have hs':cL.length=cap *sz:=by simpa using hs
 have ht':cL.take (m *sz)=xs:=by simpa using ht
 have hle:m *sz<=cap *sz:=A3Q _ hcp;refine B1B (i:=0) hm2 hd hw hx hy rfl hn1 (by rw[A1x];omega) h1 (fun w2 hm3=>k w2 ?_)
 have hm4:Mem ⟨w0,X,I0⟩ I (.obj b (.cells (cL.set off v).toArray e (0,0))::H) w2:=hm3;exact hm4.shutRow hcp hcm (by simpa using hs') (by simp only;rw[List.take_set,ht'])
theorem B8X {kt et:TypeId} [TyMap P t kt et] [TyInt P kt .i64] {b:Nat}{es:A1N}{s:Int}{zv:Value} (hm:Mem ⟨w0,X,I0⟩ I H w) (hb:B36 I b es) (hw:U4 ops l ⟨some d,.lookup t x y false,ty,pos,af,g⟩=some true) (hN:Nat.blt d N=true)
  (hx:ev l x=some (.map (some b))) (hy:ev l y=some (A7c s)) (hz:∀w,(zeroValue et).run P w=.ok zv w)
  (k:WA P N ds ops Q X w0 n f listed tail ((d,B1z es s zv)::l) w):WU P N ds ops Q X w0 n f listed tail ⟨some d,.lookup t x y false,ty,pos,af,g⟩ l w:=
 A3q rfl hw hN (fun _ ha=>A9f ha hx hy (hm.inv _ _ hb) hz) hm.kept k
end
end Go.Fw
