/- Own work: texts PpP, FwFork, SpecCnt, SpecAll, SpecRuns, SpecChange, SpecNames, one behind the other. -/
import Derived.Test.YtfjdfdgpkncpfaaGreatDoorQc8
set_option maxHeartbeats 64000000
namespace Go.Fw
open Go.Sp
open Go
section
variable {P:Program}{ops:Array Oper}{md:Region.Mode}{C:World->Prop}
def uOp (P:Program) (ops:Array Oper) (i:Nat) (K:Act->World->Prop) (a:Act) (w:World):Prop:=
 match ops[i]? with
 |none=>K a w
 |some o=>if Region.wanted o (yielded ops a.tmps) then (∃u w',(execOp a.eval o).run P w=.ok (.value u) w'/\K (a.put o.dst u) w')\/
   (∃f args,(execOp a.eval o).run P w=.ok (.enter f args) w/\Calls P f args w (fun e w'=> ∃u,e=.returned u/\K (a.put o.dst u) w'))\/
   (∃w',(execOp a.eval o).run P w=.ok .skip w'/\K (a.put o.dst undef) w') else K (a.put o.dst undef) w
theorem B2C {Q:Exit->Act->World->Prop}{i:Nat}{K:Act->World->Prop}{a:Act}{w:World} (h:uOp P ops i K a w):wpOp P ops Q i K a w:=by
 unfold uOp at h
 unfold wpOp
 cases ho:ops[i]? with
 |none=>simpa[ho] using h
 |some o=>
  simp only[ho]at h |-;split
  ·rename_i hw
   rw[if_pos hw]at h
   left
   rcases h with ⟨u,w',h1,h2⟩|⟨f,args,h1,h2⟩|⟨w',h1,h2⟩
   ·unfold Oper.wp
    rw[h1,Oper.upon_value];exact h2
   ·unfold Oper.wp
    rw[h1,Oper.upon_enter];exact Calls.mono h2 (fun e w' ⟨u,he,hk⟩=>by subst he;exact hk)
   ·unfold Oper.wp
    rw[h1,Oper.upon_skip];exact h2
  ·rename_i hw
   rw[if_neg hw]at h;exact h
theorem B2x {i:Nat}{K K':Act->World->Prop}{a:Act}{w:World} (hk:∀a w,K a w->K' a w) (h:uOp P ops i K a w):uOp P ops i K' a w:=by
 unfold uOp at h |-
 cases ho:ops[i]? with
 |none=>simp only[ho]at h |-;exact hk _ _ h
 |some o=>
  simp only[ho]at h |-;split
  ·rename_i hw
   rw[if_pos hw]at h;rcases h with ⟨u,w',h1,h2⟩|⟨f,args,h1,h2⟩|⟨w',h1,h2⟩
   ·exact .inl ⟨u,w',h1,hk _ _ h2⟩
   ·exact .inr (.inl ⟨f,args,h1,Calls.mono h2 (fun e w' ⟨u,he,h⟩=>⟨u,he,hk _ _ h⟩)⟩)
   ·exact .inr (.inr ⟨w',h1,hk _ _ h2⟩)
  ·rename_i hw
   rw[if_neg hw]at h;exact hk _ _ h
theorem A1W.uOp {i:Nat}{o:Oper}{v:Value}{a:Act}{w:World} (hi:ops[i]?=some o) (hy:A1W P ops C o v a) (hC:C w) {K:Act->World->Prop} (h:K (a.put o.dst v) w):uOp P ops i K a w:=by
 unfold Fw.uOp
 simp only[hi];rcases hy with ⟨hw,hv⟩|⟨hw,rfl⟩
 ·rw[if_pos hw];exact .inl ⟨v,w,hv w hC,h⟩
 ·rw[if_neg (by rw[hw];simp)];exact h
theorem B7A {j:Nat}{oi oj:Oper}{v:Value} (hj:ops[j]?=some oj) (hap:oi.apart ops oj=true)
  (hsi:∀cs b,oi.op≠ .select cs b) (hsj:∀cs b,oj.op≠ .select cs b) {K:Act->World->Prop}{a:Act}{w:World}
  (hy:A1W P ops C oi v a) (h:uOp P ops j K (a.put oi.dst v) w):
  uOp P ops j (fun a' w'=>A1W P ops C oi v a'/\K (a'.put oi.dst v) w') a w:=by
 obtain⟨h1,h2,h3⟩:=Oper.apart_spec hap;have keep:∀(a:Act),A1W P ops C oi v a->∀u,A1W P ops C oi v (a.put oj.dst u):=fun a hy u=>by
  unfold A1W at hy |-
  rw[execOp_put oi hsi a oj.dst u h3,wanted_put oi a oj.dst u h3];exact hy
 unfold uOp at *
 simp only[hj]at *;rw[wanted_put oj a oi.dst v h1]at h;split
 ·rename_i hw
  rw[if_pos hw]at h;rcases h with ⟨u,w',hu,hn⟩|⟨f,args,hu,hn⟩|⟨w',hu,hn⟩
  ·rw[execOp_put oj hsj a oi.dst v h1]at hu
   exact .inl ⟨u,w',hu,keep a hy u,by rw[<-Act.put_comm a v u h2];exact hn⟩
  ·rw[execOp_put oj hsj a oi.dst v h1]at hu
   exact .inr (.inl ⟨f,args,hu,Calls.mono hn (fun e w' ⟨u,he,h⟩=>⟨u,he,keep a hy u,by rw[<-Act.put_comm a v u h2];exact h⟩)⟩)
  ·rw[execOp_put oj hsj a oi.dst v h1]at hu
   exact .inr (.inr ⟨w',hu,keep a hy _,by rw[<-Act.put_comm a v undef h2];exact hn⟩)
 ·rename_i hw
  rw[if_neg hw]at h;exact⟨keep a hy _,by rw[<-Act.put_comm a v undef h2];exact h⟩
def A8I (P:Program) (md:Region.Mode) (ops:Array Oper) (C:World->Prop) (n:Nat) (L:Array Bool->Act->World->Prop):Nat->Array Bool->Act->World->Prop
 |0,listed,a,w=>L listed a w
 |f+1,listed,a,w=>Region.ready md ops listed≠ []/\∀i∈Region.ready md ops listed,i<n/\uOp P ops i (fun a' w'=>C w'/\A8I P md ops C n L f (listed.setIfInBounds i true) a' w') a w
theorem B1l {n g:Nat}{L:Array Bool->Act->World->Prop}{Q':Exit->Act->World->Prop} (hL:∀listed a w,L listed a w->wpAny P md ops Q' g listed a w):
  ∀(f:Nat) (listed:Array Bool) (a:Act) (w:World),A8I P md ops C n L f listed a w->wpAny P md ops Q' (f+g) listed a w
 |0,listed,a,w,h=>by rw[Y6];exact hL _ _ _ h
 |f+1,listed,a,w,h=>by
  rw[show f+1+g=(f+g)+1 by omega];exact⟨fun h0=>absurd h0 h.1,fun i hi=>B2C (B2x (fun a' w' h'=>B1l hL f _ a' w' h'.2) (h.2 i hi).2)⟩
theorem B7B {n i:Nat}{oi:Oper}{v:Value}{L:Array Bool->Act->World->Prop} (hi:ops[i]?=some oi) (hsel:∀(j:Nat) (o:Oper) cs b,ops[j]?=some o->o.op≠ .select cs b)
  (hs:Region.sinkB md ops n=true) (hc:Region.chainB md ops n=true) (hn:n<ops.size) (hin:i<n)
  (hdone:∀listed a w,L listed a w->∀j∈Region.ready md ops listed,n<=j):
  ∀(f:Nat) (listed:Array Bool) (a:Act) (w:World),C w->HeadInv md ops n listed->
   (∀j oj,ops[j]?=some oj->j≠i->listed.getD j true=false->(∀e∈oj.after,Region.binds md e=true->e.on≠i)->oi.apart ops oj=true)->
   i∈Region.ready md ops listed->A1W P ops C oi v a->
   A8I P md ops C n L f (listed.setIfInBounds i true) (a.put oi.dst v) w->A8I P md ops C n L (f+1) listed a w:=by
 intro f;induction f with
 |zero=>
  intro listed a w hC inv _ hr hy H;have hun:=(mem_ready.1 hr).1;refine⟨fun h=>(by rw[h]at hr;cases hr),fun j hj=>?_⟩
  have hjn:j<n:=by
   rcases X3 j n with h|h
   ·exact h
   ·exact absurd hj (tail_waits hs hc hn inv _ i rfl hin hun j h)
  refine⟨hjn,?_⟩
  by_cases hji:j=i
  ·subst hji;exact hy.uOp hi hC ⟨hC,H⟩
  ·have:=hdone _ _ _ H j (ready_mono hj hji)
   omega
 |succ f ih=>
  intro listed a w hC inv hfree hr hy H;have hun:=(mem_ready.1 hr).1;refine⟨fun h=>(by rw[h]at hr;cases hr),fun j hj=>?_⟩
  have hjn:j<n:=by
   rcases X3 j n with h|h
   ·exact h
   ·exact absurd hj (tail_waits hs hc hn inv _ i rfl hin hun j h)
  refine⟨hjn,?_⟩
  by_cases hji:j=i
  ·subst hji;exact hy.uOp hi hC ⟨hC,H⟩
  ·have h1:=(H.2 j (ready_mono hj hji)).2
   obtain⟨hjun,oj,hoj,hall⟩:=mem_ready.1 hj;have hnot:∀e∈oj.after,Region.binds md e=true->e.on≠i:=fun e he hb heq=>by
    have h1:=hall e he hb;rw[heq,getD_both hun]at h1;cases h1
   have h2:=B7A hoj (hfree j oj hoj hji hjun hnot) (fun cs b=>hsel i oi cs b hi) (fun cs b=>hsel j oj cs b hoj) hy h1;have hfree':∀k ok,ops[k]?=some ok->k≠i->(listed.setIfInBounds j true).getD k true=false->
     (∀e∈ok.after,Region.binds md e=true->e.on≠i)->oi.apart ops ok=true:=fun k ok hk hki hun hno=>by
    refine hfree k ok hk hki ?_ hno
    by_cases hjk:j=k
    ·subst hjk;exact hjun
    ·rw[getD_set_ne true hjk]at hun;exact hun
   refine B2x (fun a' w' h3=>⟨h3.2.1,ih (listed.setIfInBounds j true) a' w' h3.2.1 (inv.set hj hjn) hfree' (ready_mono hr (Ne.symm hji)) h3.1 ?_⟩) h2
   rw[A7c _ _ hji];exact h3.2.2
def B37 (md:Region.Mode) (ops:Array Oper) (n:Nat):List Nat->Array Bool->Bool
 | [],_=>true
 |k::ks,listed=>(Region.ready md ops listed).contains k && Region.free md ops listed k && decide (k<n) && B37 md ops n ks (listed.setIfInBounds k true)
def B38:List Nat->Array Bool->Array Bool
 | [],l=>l
 |k::ks,l=>B38 ks (l.setIfInBounds k true)
theorem A8J {n g f:Nat}{Lq:Act->World->Prop} (hsel:Region.noSelect ops=true) (hs:Region.sinkB md ops n=true) (hc:Region.chainB md ops n=true) (hn:n<ops.size):
  ∀(ks:List Nat) (l:List Oper) (listed:Array Bool) (a:Act) (w:World),C w->ks.map (ops[·]?)=l.map some->HeadInv md ops n listed->B37 md ops n ks listed=true->
  A6k P ops C (fun a'=>A8I P md ops C n (fun listed' a' w'=>Region.seqB md ops g n listed'=true/\Lq a' w') f (B38 ks listed) a' w) l a->
  A8I P md ops C n (fun listed' a' w'=>Region.seqB md ops g n listed'=true/\Lq a' w') (l.length+f) listed a w
 | [],[],listed,a,w,_,_,_,_,h=>by rw[List.length_nil,Y6];exact h
 |k::ks,o::l,listed,a,w,hC,hl,inv,hB,h=>by
  simp only[Y2,A3R]at hl;obtain⟨h0,hl'⟩:=hl;simp only[B37,Q7,decide_eq_true_eq]at hB;obtain⟨⟨⟨hr,hf⟩,hkn⟩,hB'⟩:=hB;have hr':k∈Region.ready md ops listed:=by simpa using hr
  obtain⟨v,hy,hK⟩:=h;rw[show (o::l).length+f=(l.length+f)+1 by simp only[X8];omega];exact B7B h0 (Region.noSelect_spec hsel) hs hc hn hkn (fun listed' a' w' hL=>seqB_ready hL.1) (l.length+f) listed a w hC inv (Region.free_spec h0 hf) hr' hy
   (A8J hsel hs hc hn ks l _ _ w hC hl' (inv.set hr' hkn) hB' hK)
 | [],_::_,_,_,_,_,hl,_,_,_=>by simp at hl
 |_::_,[],_,_,_,_,hl,_,_,_=>by simp at hl
def B2Z (ops:Array Oper) (ks:List Nat) (n:Nat):Bool:=
 Region.noSelect ops && decide (n<ops.size) && Region.sinkB .any ops n && Region.chainB .any ops n && B37 .any ops n ks (Array.replicate ops.size false) && decide (ks.length<=n) && ks.all (fun k=>Nat.blt k ops.size)
theorem A9i {id:Nat}{Q:Exit->Act->World->Prop}{a:Act}{w:World}{l:List Oper} (ks:List Nat) (n:Nat) (hm:P.follows .mixedOrders=true) (hB:B2Z l.toArray ks n=true)
  (hC:C { w with drawn:=w.drawn+1})
  (h:A6k P l.toArray C (fun a'=>A8I P .any l.toArray C n (fun listed' a' w'=>Region.seqB .any l.toArray (l.length-n) n listed'=true/\wpList P l.toArray Q (l.drop n) a' w') (n-ks.length) (B38 ks (Array.replicate l.length false)) a' { w with drawn:=w.drawn+1}) (A3F l ks) a):
  (Code.region id l.toArray true).wp P Q a w:=by
 simp only[B2Z,Q7,decide_eq_true_eq]at hB;obtain⟨⟨⟨⟨⟨⟨hsel,hn⟩,hs⟩,hc⟩,hlex⟩,hlen⟩,hks⟩:=hB;have hn':n<l.length:=by simpa using hn
 have hdl:(l.drop n).length=l.length-n:=by simp
 obtain⟨k1,k2⟩:=A4y l ks (by simpa using hks);have inv0:HeadInv .any l.toArray n (Array.replicate l.length false):=
  ⟨by simp,fun j oj _ hl=>(by rw[getD_replicate_false]at hl;cases hl),fun t _ ht=>getD_in (by simpa using ht) (getD_replicate_false _ _)⟩
 have H:=A8J (md:=.any) (g:=l.length-n) (f:=n-ks.length) hsel hs hc hn ks (A3F l ks) _ a _ hC k1 inv0 (by simpa using hlex) h;refine wp_region_any hm ?_
 have:=B1l (Q':=Q) (g:=l.length-n) (fun listed a' w' hL=>by
  have:=wpAny_of_seq (md:=.any) (Q':=Q) (l.drop n) n listed a' w' (fun j=>by simp[A1f]) (by rw[hdl];exact hL.1) hL.2
  rwa [hdl]at this) _ _ _ _ H
 rw[k2,show ks.length+(n-ks.length)+(l.length-n)=l.length by omega]at this;simpa using this
end
section
variable {P:Program}{N:Nat}{ds:List Deferred}{X:List Nat}{Q:Exit->Act->World->Prop}{l:Log}{w w' w0:World}{os tail:List Oper}{ops:Array Oper}{E:Ent}{I:U0}{G R H:List HItem}{o:Oper}
structure WA (P:Program) (N:Nat) (ds:List Deferred) (ops:Array Oper) (Q:Exit->Act->World->Prop) (X:List Nat) (w0:World) (n f:Nat) (listed:Array Bool) (tail:List Oper) (l:Log) (w:World):Prop where
 run:∀a,Fits N ds l a->A8I P .any ops (fun w'=>Kept X w0 w') n (fun listed' a' w'=>Region.seqB .any ops (ops.size-n) n listed'=true/\wpList P ops Q tail a' w') f listed a w
structure WU (P:Program) (N:Nat) (ds:List Deferred) (ops:Array Oper) (Q:Exit->Act->World->Prop) (X:List Nat) (w0:World) (n f:Nat) (listed:Array Bool) (tail:List Oper) (o:Oper) (l:Log) (w:World):Prop where
 run:∀a,Fits N ds l a->∀i,ops[i]?=some o->uOp P ops i (fun a' w'=>Kept X w0 w'/\A8I P .any ops (fun w'=>Kept X w0 w') n (fun listed' a' w'=>Region.seqB .any ops (ops.size-n) n listed'=true/\wpList P ops Q tail a' w') f listed a' w') a w
theorem A6H [Mixed P] {id:Nat} (hm:Mem E I (G++R) w) (ks:List Nat) (n:Nat) (hB:B2Z os.toArray ks n=true:=by kernel_rfl)
  (h:∀wd,Mem E I (G++R) wd->Mem ⟨wd,A10 G,I⟩ I G wd->WV P N ds os.toArray (A10 G) wd (fun a'=>A8I P .any os.toArray (fun w'=>Kept (A10 G) wd w') n (fun listed' a' w'=>Region.seqB .any os.toArray (os.toArray.size-n) n listed'=true/\wpList P os.toArray Q (os.drop n) a' w') (n-ks.length) (B38 ks (Array.replicate os.length false)) a' wd) (A3F os ks) l):
  WC P N ds (.region id os.toArray true) Q l w:=
 ⟨fun a ha=>A9i (C:=fun w'=>Kept (A10 G) { w with drawn:=w.drawn+1} w') ks n Mixed.out hB (Kept.refl _ _) ((h _ (hm.kept0 (Kept.drew w)) (hm.kept0 (Kept.drew w)).sub).run a ha)⟩
theorem B07 {n f:Nat}{listed:Array Bool} (h:WA P N ds ops Q X w n f listed tail l w):
  WV P N ds ops X w (fun a'=>A8I P .any ops (fun w'=>Kept X w w') n (fun listed' a' w'=>Region.seqB .any ops (ops.size-n) n listed'=true/\wpList P ops Q tail a' w') f listed a' w) [] l:=⟨fun a ha=>h.run a ha⟩
theorem B04 {n:Nat}{listed:Array Bool} (hs:Region.seqB .any ops (ops.size-n) n listed=true) (h:WL P N ds ops Q tail l w):WA P N ds ops Q X w0 n 0 listed tail l w:=⟨fun a ha=>⟨hs,h.run a ha⟩⟩
theorem A4l {n f i:Nat}{listed:Array Bool} (h:WU P N ds ops Q X w0 n f (listed.setIfInBounds i true) tail o l w) (hr:Region.ready .any ops listed= [i]) (hi:ops[i]?=some o:=by rfl) (hn:Nat.blt i n=true:=by rfl)
   :WA P N ds ops Q X w0 n (f+1) listed tail l w:=
 ⟨fun a ha=>⟨by rw[hr];simp,fun j hj=>by
  rw[hr]at hj;obtain rfl:j=i:=by simpa using hj
  exact⟨by simpa[A1x] using hn,h.run a ha j hi⟩⟩⟩
theorem B6L {n f i j:Nat}{o2:Oper}{listed:Array Bool} (h2:WU P N ds ops Q X w0 n f (listed.setIfInBounds j true) tail o2 l w) (hr:Region.ready .any ops listed= [i,j]) (hi:ops[i]?=some o:=by rfl) (hj:ops[j]?=some o2:=by rfl) (hn:Nat.blt i n=true:=by rfl) (hn2:Nat.blt j n=true:=by rfl)
  (h:WU P N ds ops Q X w0 n f (listed.setIfInBounds i true) tail o l w)  :WA P N ds ops Q X w0 n (f+1) listed tail l w:=
 ⟨fun a ha=>⟨by rw[hr];simp,fun k hk=>by
  rw[hr]at hk;rcases A0D.1 hk with rfl|hk
  ·exact⟨by simpa[A1x] using hn,h.run a ha _ hi⟩
  ·obtain rfl:k=j:=by simpa using hk
   exact⟨by simpa[A1x] using hn2,h2.run a ha _ hj⟩⟩⟩
variable {d:Nat}{ty:TypeId}{pos:String}{af:Array Edge}{g:Option (Nat×Bool)}{t t':TypeId}{x y z:Operand}{n f:Nat}{listed:Array Bool}
theorem A4Z {d:Nat}{v:Value} (hd:o.dst=some d) (hw:O8 ops l o=some true) (hN:Nat.blt d N=true) (hrun:∀a,Fits N ds l a->(execOp a.eval o).run P w=.ok (.value v) w') (hC:Kept X w0 w')
  (k:WA P N ds ops Q X w0 n f listed tail ((d,v)::l) w'):WU P N ds ops Q X w0 n f listed tail o l w:=
 ⟨fun a ha i hi=>by
  unfold uOp
  simp only[hi];rw[A2m ha hw];exact .inl ⟨v,w',hrun a ha,hC,by rw[hd];exact k.run _ (ha.put hN v)⟩⟩
theorem B06 (hd:o.dst=none) (hw:O8 ops l o=some true) (hrun:∀a,Fits N ds l a->(execOp a.eval o).run P w=.ok .skip w') (hC:Kept X w0 w')
  (k:WA P N ds ops Q X w0 n f listed tail l w'):WU P N ds ops Q X w0 n f listed tail o l w:=
 ⟨fun a ha i hi=>by
  unfold uOp
  simp only[hi];rw[A2m ha hw];exact .inr (.inr ⟨w',hrun a ha,hC,by rw[hd];exact k.run _ ha⟩)⟩
theorem A9Y {pl:List (Nat×Nat)}{z:List Value} [hS:StructT P t pl z] {n' by_:Nat} [Elem P t n' by_] {I0:U0} (k:∀b w',Mem ⟨w0,X,I0⟩ I (.obj b (.cells z.toArray t (0,0))::H) w'->WA P N ds ops Q X w0 n f listed tail ((d,.pointer (some ⟨b,0,none⟩))::l) w') (hm:Mem ⟨w0,X,I0⟩ I H w) (hw:O8 ops l ⟨some d,.alloc t,ty,pos,af,g⟩=some true:=by rfl) (hN:Nat.blt d N=true:=by rfl)
   :
  WU P N ds ops Q X w0 n f listed tail ⟨some d,.alloc t,ty,pos,af,g⟩ l w:=by
 obtain⟨_,_,_,hz⟩:=hS.out;cases hi:P.info? t with
 |none=>simp[hi]at hz
 |some i=>
  simp only[hi,A1S]at hz;have hk:=Kept.alloc w (.cells z.toArray t (0,0));have hm':=hm.add (x:=.obj w.heap.size (.cells z.toArray t (0,0))) hk (heap_alloc_new w _) (fun b hb=>by simp only[HItem.blk,U5]at hb;omega);refine A4Z (w':=w.alloc (.cells z.toArray t (0,0))) (v:=.pointer (some ⟨w.heap.size,0,none⟩)) rfl hw hN (fun a ha=>?_) hm'.kept (k _ _ hm')
  simp[execOp,Instr.alloc,newVar,newRow,newObj,zeroValue,typeInfo,hi,hz,Value.cells];rfl
structure WHold (p:Prop):Prop where
 out:p
theorem A25 (id:Nat) {dr:Bool} (h:WHold (WC P N ds (.region id ops dr) Q l w)):WC P N ds (.region id ops dr) Q l w:=h.out
theorem B7E {α:Type} (id:Nat) (L:α->Log) (J:α->World->Prop)
  (h:WC P N ds (.region id os.toArray true) (Exit.then (fun a w=> ∃x,Fits N ds (L x) a/\J x w) Q) l w) (k:∀x w,J x w->At N ds Q .normal (L x) w):WC P N ds (.region id os.toArray true) Q l w:=
 ⟨fun a ha=>wp_mono (h.run a ha) (fun e a w q=>by
  cases e<;>first|exact q|(obtain⟨x,hx,hj⟩:=q;exact(k x w hj).run a hx))⟩
theorem A13 {e:TypeId}{sz by_:Nat}{KV:Act->Prop} [TySlice P t e] [Elem P e sz by_] {a:Option Addr}{m cp:Nat}{i:Int}{xs:List Value} (k:∀b off,PtrI I b off e ((xs.drop (i.toNat *sz)).take sz)->WV P N ds ops X w KV os ((d,.pointer (some ⟨b,off,none⟩))::l)) (hw:O8 ops l ⟨some d,.indexAddr t x y,ty,pos,af,g⟩=some true:=by rfl) (hN:Nat.blt d N=true:=by rfl)
  (hx:ev l x=some (.slice a m cp):=by rfl) (hy:ev l y=some (.int .i64 i):=by rfl) (hr:RowI I e sz (.slice a m cp) m xs) (h0:0<=i:=by omega) (h1:i<m:=by omega)
   :
  WV P N ds ops X w KV (⟨some d,.indexAddr t x y,ty,pos,af,g⟩::os) l:=by
 obtain⟨b,off,rfl,hp⟩:=hr.at_ i.toNat (by omega);exact A4f hw hN hx hy h0 h1 (k b _ hp)
theorem A8g {i b n' by_:Nat} [Elem P t n' by_] {c vs:List Value}{e:TypeId}{dst:Option Nat}{I0:U0} (k:∀w',Mem ⟨w0,X,I0⟩ I (H.set i (.obj b (.cells vs.toArray e (0,0)))) w'->WA P N ds ops Q X w0 n f listed tail l w') (hm:Mem ⟨w0,X,I0⟩ I H w) (hd:dst=none:=by rfl) (hw:O8 ops l ⟨dst,.store t x y,ty,pos,af,g⟩=some true:=by rfl)
  (hx:ev l x=some (.pointer (some ⟨b,0,none⟩)):=by rfl) (hy:ev l y=some (.agg vs.toArray):=by rfl) (hb:H[i]?=some (.obj b (.cells c.toArray e (0,0))):=by first|exact gt0|exact gt1|exact gt2|exact gt3|exact gt4|exact gt5|exact gt6) (hn:vs.length=n':=by rfl) (ho:c.length=n':=by rfl)
  (h1:vs.all (·.oneCell')=true:=by rfl)
   :
  WU P N ds ops Q X w0 n f listed tail ⟨dst,.store t x y,ty,pos,af,g⟩ l w:=by
 subst hd;have hget:=hm.get hb;have h2:=A56 (P:=P) (t:=t) (off:=0) (.agg vs.toArray) hget (by simpa[Value.cells] using hn) (by simp[ho]) (by simpa[Value.cells] using h1);generalize hc':(c.toArray.toList.take 0++(Value.agg vs.toArray).cells.toList++c.toArray.toList.drop (0+n')).toArray=c' at h2;have e0:c'=vs.toArray:=by
  rw[<-hc',Y6, <-ho];simp[Value.cells]
 rw[e0]at h2;have hk:Kept [b] w (w.setRow b vs.toArray):=Kept.setRow hget _;have hm':=hm.turn (h':=.obj b (.cells vs.toArray e (0,0))) hb (by simpa[HItem.blk] using hk) (by
  show (w.setRow b vs.toArray).heap[b]?=_
  rw[setRow_heap w b c.toArray _ e (0,0) hget]) (.inl rfl)
 refine B06 rfl hw (fun a ha=>?_) hm'.kept (k _ hm')
 simp only[execOp,Instr.storeAt,Instr.sureAddr,ha.ev hx,ha.ev hy,Sem.run_bind,Sem.run_pure,Result.andThen,h2]
end
theorem A8r {P:Program}{N:Nat}{ds:List Deferred}{Q:Exit->Act->World->Prop}{l:Log}{w:World} (id:Nat) {ops:Array Oper}{dr:Bool}{x y:Code}{α:Type} (L:α->Log) (J:α->World->Prop)
  (h:WHold (WC P N ds (.seq (.region id ops dr) x) (Exit.then (fun a w=> ∃x,Fits N ds (L x) a/\J x w) Q) l w))
  (k:∀x w,J x w->WC P N ds y Q (L x) w):WC P N ds (.seq (.seq (.region id ops dr) x) y) Q l w:=A7m id L J h.out k
theorem A8q {P:Program}{N:Nat}{ds:List Deferred}{Q:Exit->Act->World->Prop}{l:Log}{w:World} (id:Nat) {ops:Array Oper}{dr:Bool}{x y:Code}{α:Type} (L:α->Log) (J:α->World->Prop)
  (h:WHold (WC P N ds (.seq (.region id ops dr) x) (Exit.then (fun a w=> ∃x,Fits N ds (L x) a/\J x w) Q) l w))
  (k:∀x w,J x w->WC P N ds y Q (L x) w):WC P N ds (.seq (.seq (.region id ops dr) x) y) Q l w:=A7m id L J h.out k
end Go.Fw
namespace Go.Sp
mutual
def Ex.cnt:Ex->Nat
 | .mk _ _ _ args _ _=>A0Y args+1
def A0Y:List Ex->Nat
 | []=>0
 |e::es=>e.cnt+A0Y es
 end
mutual
def Stm.cnt:Stm->Nat
 | .mk _ _ _ _ _ e thn els _ _=>e.cnt+P6 thn+P6 els+1
def P6:List Stm->Nat
 | []=>0
 |x::xs=>x.cnt+P6 xs
 end
theorem A3l:∀(l r:List Ex),A0Y (l++r)=A0Y l+A0Y r
 | [],r=>by rw[A0Y];simp
 |e::l,r=>by rw[A0a,A0Y,A0Y,A3l l r];omega
theorem A2q:∀(l r:List Stm),P6 (l++r)=P6 l+P6 r
 | [],r=>by rw[P6];simp
 |e::l,r=>by rw[A0a,P6,P6,A2q l r];omega
theorem A4B (e:Ex):A0Y [e]=e.cnt:=by rw[A0Y,A0Y];omega
theorem A4c (e:Stm):P6 [e]=e.cnt:=by rw[P6,P6];omega
theorem A3i (k n f t:Nat) (nm:List UInt8):(Ex.mk k nm n [] f t).cnt=1:=by rw[Ex.cnt,A0Y]
theorem A2z (T:Src) (s:St) (w:List UInt8):s.i<=(s.need T w).2.i:=(Z5 T s w).le
theorem B1s (T:Src):∀f,(∀d s,(A4z T f d s).1.cnt<=2 *((A4z T f d s).2.i-s.i)+1)/\(∀d l s,A0Y (A31 T f d l s).1<=A0Y l+2 *((A31 T f d l s).2.i-s.i)+1)/\
  (∀d m s,(A0Q T f d m s).1.cnt<=2 *((A0Q T f d m s).2.i-s.i)+1)/\(∀d m e s,(opL T f d m e s).1.cnt<=e.cnt+2 *((opL T f d m e s).2.i-s.i))
 |0=>⟨fun _ _=>by rw[A4z];show (Ex.mk 0 [] 0 [] 0 0).cnt<=_;rw[A3i];omega,fun _ _ _=>by rw[A31];dsimp only;omega,
   fun _ _ _=>by rw[A0Q];show (Ex.mk 0 [] 0 [] 0 0).cnt<=_;rw[A3i];omega,fun _ _ _ _=>by rw[opL];dsimp only;omega⟩
 |f+1=>by
  obtain⟨hA,hL,hE,hO⟩:=B1s T f;obtain⟨gA,gL,gE,gO⟩:=A0B T f;refine⟨fun d s=>?_,fun d l s=>?_,fun d m s=>?_,fun d m e s=>?_⟩
  ·rw[A4z]
   dsimp only
   split
   ·rw[A6V];dsimp only;rw[A3i];omega
   ·split
    ·rw[A6V];dsimp only;rw[A3i];omega
    ·split
     ·split
      ·dsimp only;rw[A3i];omega
      ·dsimp only;rw[A3i];omega
     ·split
      ·have h1:=hE (d+1) 1 s.next
       have h2:=(gE (d+1) 1 s.next).le;have h3:=A2z T (A0Q T f (d+1) 1 s.next).2 [41];rw[N8]at h1 h2;dsimp only
       omega
      ·split
       ·rw[A6V];dsimp only;rw[A3i];omega
       ·split
        ·dsimp only;rw[A3i];omega
        ·have h1:=hL (d+1) [] s.next.next
         have h2:=(gL (d+1) [] s.next.next).le;have h3:=A2z T (A31 T f (d+1) [] s.next.next).2 [41];rw[N8,N8]at h1 h2;rw[A0Y]at h1;dsimp only
         rw[Ex.cnt];omega
  ·rw[A31]
   split
   ·dsimp only;omega
   ·split
    ·dsimp only;omega
    ·have h1:=hE d 1 s
     have h2:=(gE d 1 s).le;try dsimp only
     split
     ·have h3:=hL d (l++ [(A0Q T f d 1 s).1]) (A0Q T f d 1 s).2.next
      have h4:=(gL d (l++ [(A0Q T f d 1 s).1]) (A0Q T f d 1 s).2.next).le;rw[N8]at h3 h4;rw[A3l,A4B]at h3;omega
     ·dsimp only
      rw[A3l,A4B];omega
  ·rw[A0Q]
   try dsimp only
   have h1:=hA d s;have h2:=(gA d s).le;have h3:=hO d m (A4z T f d s).1 (A4z T f d s).2;have h4:=(gO d m (A4z T f d s).1 (A4z T f d s).2).le;omega
  ·rw[opL]
   try dsimp only
   split
   ·dsimp only;omega
   ·have h1:=hE d (A2X (T.tok s.i).text+1) s.next
    have h2:=(gE d (A2X (T.tok s.i).text+1) s.next).le;rw[N8]at h1 h2;generalize A0Q T f d (A2X (T.tok s.i).text+1) s.next=r at h1 h2 |-;have h3:=hO d m (.mk 3 (T.tok s.i).text 0 [e,r.1] e.fr (max r.1.to e.to)) r.2;have h4:=(gO d m (.mk 3 (T.tok s.i).text 0 [e,r.1] e.fr (max r.1.to e.to)) r.2).le;rw[Ex.cnt,A0Y,A4B]at h3;omega
theorem A9F (T:Src):∀f,(∀d s,P6 (block T f d s).1<=8 *((block T f d s).2.i-s.i))/\(∀d l s,P6 (A4j T f d l s).1<=P6 l+8 *((A4j T f d l s).2.i-s.i))/\
  (∀d s,(stm T f d s).1.cnt<=8 *max ((stm T f d s).2.i-s.i) 1)
 |0=>⟨fun _ _=>by rw[block];dsimp only;rw[P6];omega,fun _ _ _=>by rw[A4j];dsimp only;omega,
   fun _ s=>by rw[stm];show (Stm.mk 0 [] 0 0 false (.mk 0 [] 0 [] 0 0) [] [] 0 0).cnt<=_;rw[Stm.cnt,A3i,P6];omega⟩
 |f+1=>by
  obtain⟨hB,hL,hS⟩:=A9F T f;obtain⟨gB,gL,gS⟩:=A1n T f;have hE:=(B1s T f).2.2.1;have gE:=(A0B T f).2.2.1;refine⟨fun d s=>?_,fun d l s=>?_,fun d s=>?_⟩
  ·rw[block]
   split
   ·dsimp only;rw[P6];omega
   ·split
    ·dsimp only;rw[P6];omega
    ·have h1:=hL (d+1) [] s.next
     have h2:=(gL (d+1) [] s.next).le;have h3:=A2z T (A4j T f (d+1) [] s.next).2 [125];rw[N8]at h1 h2;rw[P6]at h1;try dsimp only
     omega
  ·rw[A4j]
   split
   ·dsimp only;omega
   ·split
    ·dsimp only;omega
    ·have h1:=hS d s
     have h2:=(gS d s).le;try dsimp only
     split
     ·rename_i he
      have h3:=hL d (l++ [(stm T f d s).1]) (stm T f d s).2.next;have h4:=(gL d (l++ [(stm T f d s).1]) (stm T f d s).2.next).le;rw[N8]at h3 h4;rw[A2q,A4c]at h3;omega
     ·rename_i he
      have h3:=hL d (l++ [(stm T f d s).1]) (stm T f d s).2;have h4:=(gL d (l++ [(stm T f d s).1]) (stm T f d s).2).le;rw[A2q,A4c]at h3;omega
  ·rw[stm]
   dsimp only
   split
   ·have h1:=(A0R T s.next).le
    rw[N8]at h1;generalize s.next.named T=r at h1 |-;generalize hr1:(if (!T.is r.2.i [58])=true then (0,r.2) else lab T r.2.next)=r1;have h2:r.2.i<=r1.2.i:=by
     rw[<-hr1];split
     ·exact H6 _
     ·have:=(A2D T r.2.next).le
      rw[N8]at this;omega
    have h3:=A2z T r1.2 [61];have h4:=hE d 1 (r1.2.need T [61]).2;have h5:=(gE d 1 (r1.2.need T [61]).2).le;have h6:=A2z T (A0Q T f d 1 (r1.2.need T [61]).2).2 [59];try dsimp only
    rw[Stm.cnt,P6];omega
   ·split
    ·have h1:=hE d 1 s.next
     have h2:=(gE d 1 s.next).le;rw[N8]at h1 h2;generalize A0Q T f d 1 s.next=r at h1 h2 |-;have h3:=hB d r.2;have h4:=(gB d r.2).le;generalize block T f d r.2=r1 at h3 h4 |-;split
     ·have h5:=hB d r1.2.next
      have h6:=(gB d r1.2.next).le;rw[N8]at h5 h6;dsimp only
      try dsimp only
      rw[Stm.cnt];omega
     ·dsimp only
      try dsimp only
      rw[Stm.cnt,P6];omega
    ·split
     ·have h1:=hE d 1 s.next
      have h2:=(gE d 1 s.next).le;rw[N8]at h1 h2;generalize A0Q T f d 1 s.next=r at h1 h2 |-;have h3:=hB d r.2;have h4:=(gB d r.2).le;try dsimp only
      rw[Stm.cnt,P6];omega
     ·split
      ·have h1:=(A0R T s.next).le
       rw[N8]at h1;generalize s.next.named T=r at h1 |-;have h4:=hE d 1 r.2;have h5:=(gE d 1 r.2).le;have h6:=A2z T (A0Q T f d 1 r.2).2 [59];try dsimp only
       rw[Stm.cnt,P6];omega
      ·split
       ·have h4:=hE d 1 s.next
        have h5:=(gE d 1 s.next).le;have h6:=A2z T (A0Q T f d 1 s.next).2 [59];rw[N8]at h4 h5;try dsimp only
        rw[Stm.cnt,P6];omega
       ·split
        ·split
         ·have h4:=hE d 1 s.next.next
          have h5:=(gE d 1 s.next.next).le;have h6:=A2z T (A0Q T f d 1 s.next.next).2 [59];rw[N8,N8]at h4 h5;try dsimp only
          rw[Stm.cnt,P6];omega
         ·have h4:=hE d 1 s
          have h5:=(gE d 1 s).le;have h6:=A2z T (A0Q T f d 1 s).2 [59];try dsimp only
          rw[Stm.cnt,P6];omega
        ·rw[Stm.cnt,P6]
         show (Ex.mk 0 [] 0 [] 0 0).cnt+0+0+1<=_
         rw[A3i];omega
theorem A5s {T:Src}{s:St} (w:List UInt8) (h:s.i<=T.l.length):(s.need T w).2.i<=T.l.length:=(Z5 T s w).top h
theorem B1O (src:List UInt8) (at_:Int):P6 (item src at_).body<=8 *src.length:=by
 have htl:(O6 src).length<=src.length:=A5y src;rw[item];generalize hT:(⟨O6 src,src.length⟩:Src)=T;have hTl:T.l.length<=src.length:=by rw[<-hT];exact htl
 dsimp only
 split
 ·rename_i hfn
  have h0:=is_lt hfn;dsimp only[A5m];have h1:=(A0R T ⟨1,[]⟩).top (show 1<=_ by omega);generalize (⟨1,[]⟩:St).named T=r at h1 |-;have h2:=A5s [40] h1;generalize (r.2.need T [40]).2=s1 at h2 |-;have h3:=((A6w T 6 [] s1 (by simp)).2 h2).2.1;generalize A5v T 6 [] s1=r2 at h3 |-;have h4:=A5s [41] h3;generalize (r2.2.need T [41]).2=s3 at h4 |-;have h5:=A5s [58] h4;generalize (s3.need T [58]).2=s4 at h5 |-;have h6:=(A2D T s4).top h5;generalize lab T s4=r5 at h6 |-;generalize hr6:(if T.is r5.2.i [115,101,110,100,115]=true then A40 T 6 [] r5.2.next else ([],r5.2))=r6;have h7:r6.2.i<=T.l.length:=by
   rw[<-hr6];split
   ·rename_i hs
    have:=is_lt hs;exact((A6D T 6 [] r5.2.next (by simp)).2 (by rw[N8];omega)).2.1
   ·exact h6
  have h8:=(A9F T (A68 T)).1 0 r6.2;have h9:=((A1n T (A68 T)).1 0 r6.2).top h7;omega
 ·split
  ·dsimp only[A9E]
   rw[P6];omega
  ·dsimp only
   rw[P6];omega
abbrev PE:=Nat->List UInt8->Nat->Nat->Nat->Nat->Prop
abbrev PS:=Nat->List UInt8->Nat->Nat->Bool->Nat->Nat->Prop
mutual
def Ex.all (p:PE):Ex->Prop
 | .mk k nm n args f t=>p k nm n args.length f t/\A2H p args
def A2H (p:PE):List Ex->Prop
 | []=>True
 |e::es=>e.all p/\A2H p es
 end
mutual
def Stm.all (p:PE) (q:PS):Stm->Prop
 | .mk k nm a lb o e thn els f t=>q k nm a lb o f t/\e.all p/\V5 p q thn/\V5 p q els
def V5 (p:PE) (q:PS):List Stm->Prop
 | []=>True
 |x::xs=>x.all p q/\V5 p q xs
 end
theorem A62 {p:PE}:∀ {l r:List Ex},A2H p l->A2H p r->A2H p (l++r)
 | [],r,_,h=>h
 |e::l,r,h,g=>by
  rw[A2H]at h;rw[A0a,A2H];exact⟨h.1,A62 h.2 g⟩
theorem A63 {p:PE}{e:Ex} (h:e.all p):A2H p [e]:=by rw[A2H,A2H];exact⟨h,trivial⟩
theorem A8Q {p:PE}:A2H p []:=by rw[A2H];trivial
theorem Y3 {p:PE}{q:PS}:V5 p q []:=by rw[V5];trivial
theorem A8l {p:PE}{q:PS}:∀ {l r:List Stm},V5 p q l->V5 p q r->V5 p q (l++r)
 | [],r,_,h=>h
 |e::l,r,h,g=>by
  rw[V5]at h;rw[A0a,V5];exact⟨h.1,A8l h.2 g⟩
theorem B2r {p:PE}{q:PS}{e:Stm} (h:e.all p q):V5 p q [e]:=by rw[V5,V5];exact⟨h,trivial⟩
theorem A8P {p:PE}:∀ {l:List Ex}{i:Nat}{e:Ex},A2H p l->l[i]?=some e->e.all p
 | [],_,_,_,h=>by simp at h
 |a::l,0,e,h,hg=>by
  rw[A2H]at h;simp only[A0S,U5]at hg;subst hg;exact h.1
 |a::l,i+1,e,h,hg=>by
  rw[A2H]at h;rw[A0E]at hg;exact A8P h.2 hg
theorem A46 {p:PE}{q:PS}:∀ {l:List Stm}{i:Nat}{e:Stm},V5 p q l->l[i]?=some e->e.all p q
 | [],_,_,_,h=>by simp at h
 |a::l,0,e,h,hg=>by
  rw[V5]at h;simp only[A0S,U5]at hg;subst hg;exact h.1
 |a::l,i+1,e,h,hg=>by
  rw[V5]at h;rw[A0E]at hg;exact A46 h.2 hg
theorem A3d {p:PE}{k n f t:Nat}{nm:List UInt8} (h:p k nm n 0 f t):(Ex.mk k nm n [] f t).all p:=by rw[Ex.all];exact⟨h,A8Q⟩
theorem Ex.all_node {p:PE}{e:Ex} (h:e.all p):p e.kind e.name e.n e.args.length e.fr e.to/\A2H p e.args:=by
 cases e;rw[Ex.all]at h;exact h
theorem Stm.all_node {p:PE}{q:PS}{e:Stm} (h:e.all p q):q e.kind e.name e.at_ e.label e.opn e.fr e.to/\e.e.all p/\V5 p q e.thn/\V5 p q e.els:=by
 cases e;rw[Stm.all]at h;exact h
structure AtE (T:Src) (p:PE):Prop where
 zero:p 0 [] 0 0 0 0
 bad:∀i,p 5 [] 0 0 (T.tok i).pos (T.tok i).pos
 num:∀i n,n<=1000000000->(T.tok i).kind=2->p 1 [] n 0 (T.tok i).pos ((T.tok i).pos+(T.tok i).text.length)
 var:∀i,name (T.tok i).text=true->p 2 (T.tok i).text 0 0 (T.tok i).pos ((T.tok i).pos+(T.tok i).text.length)
 call:∀i j m,name (T.tok i).text=true->m<=5->i+2<=j->p 4 (T.tok i).text 0 m (T.tok i).pos (T.endOf j)
 op:∀i k1 n1 v1 m1 f1 t1 k2 n2 v2 m2 f2 t2,A2X (T.tok i).text≠0->p k1 n1 v1 m1 f1 t1->p k2 n2 v2 m2 f2 t2->p 3 (T.tok i).text 0 2 f1 (max t2 t1)
theorem B1f {T:Src}{p:PE} (h:AtE T p):∀f,(∀d s,(A4z T f d s).1.all p)/\(∀d l s,l.length<=5->A2H p l->(A31 T f d l s).1.length<=5/\A2H p (A31 T f d l s).1)/\
  (∀d m s,(A0Q T f d m s).1.all p)/\(∀d m e s,e.all p->(opL T f d m e s).1.all p)
 |0=>⟨fun _ _=>by rw[A4z];exact A3d h.zero,fun _ _ _ h1 h2=>by rw[A31];exact⟨h1,h2⟩,fun _ _ _=>by rw[A0Q];exact A3d h.zero,fun _ _ _ _ h1=>by rw[opL];exact h1⟩
 |f+1=>by
  obtain⟨hA,hL,hE,hO⟩:=B1f h f;refine⟨fun d s=>?_,fun d l s h1 h2=>?_,fun d m s=>?_,fun d m e s h1=>?_⟩
  ·rw[A4z]
   dsimp only
   split
   ·exact A3d (h.bad _)
   ·split
    ·exact A3d (h.bad _)
    ·split
     ·rename_i hk
      split
      ·exact A3d (h.num _ 0 (by omega) hk)
      ·exact A3d (h.num _ _ (by omega) hk)
     ·split
      ·exact hE _ _ _
      ·split
       ·exact A3d (h.bad _)
       ·rename_i hn
        have hn':name (T.tok s.i).text=true:=by simpa using hn
        split
        ·exact A3d (h.var _ hn')
        ·obtain⟨h1,h2⟩:=hL (d+1) [] s.next.next (by simp) A8Q
         dsimp only
         rw[Ex.all];have h3:=((A0B T f).2.1 (d+1) [] s.next.next).le;have h4:=(Z5 T (A31 T f (d+1) [] s.next.next).2 [41]).le;rw[N8,N8]at h3;exact⟨h.call _ _ _ hn' h1 (by omega),h2⟩
  ·rw[A31]
   split
   ·exact⟨h1,h2⟩
   ·split
    ·exact⟨h1,h2⟩
    ·have h3:=hE d 1 s
     have h4:(l++ [(A0Q T f d 1 s).1]).length<=5:=by simp;omega
     have h5:=A62 h2 (A63 h3);dsimp only
     split
     ·exact hL _ _ _ h4 h5
     ·exact⟨h4,h5⟩
  ·rw[A0Q]
   try dsimp only
   exact hO _ _ _ _ (hA d s)
  ·rw[opL]
   try dsimp only
   split
   ·exact h1
   ·rename_i ht
    refine hO _ _ _ _ ?_
    have h3:=hE d (A2X (T.tok s.i).text+1) s.next;generalize (A0Q T f d (A2X (T.tok s.i).text+1) s.next).1=r at h3 |-;cases e with
    |mk k1 n1 v1 a1 f1 t1=>
    cases r with
    |mk k2 n2 v2 a2 f2 t2=>
    have g1:=h1;have g3:=h3;rw[Ex.all]at g1 g3;rw[Ex.all];exact⟨h.op _ _ _ _ _ _ _ _ _ _ _ _ _ (by omega) g1.1 g3.1,A62 (A63 h1) (A63 h3)⟩
structure AtS (T:Src) (q:PS):Prop where
 zero:q 0 [] 0 0 false 0 0
 let_:∀i (s:St) lb o j,lb<=255->q 1 (s.named T).1 (T.tok s.i).pos lb o (T.tok i).pos (max (T.endOf j) (T.tok i).pos)
 set:∀i j,name (T.tok i).text=true->q 2 (T.tok i).text (T.tok i).pos 0 false (T.tok i).pos (max (T.endOf j) (T.tok i).pos)
 plain:∀k i j,(k=3\/k=4\/k=6\/k=7\/k=8)->q k [] 0 0 false (T.tok i).pos (max (T.endOf j) (T.tok i).pos)
 send:∀i (s:St) j,q 5 (s.named T).1 (T.tok s.i).pos 0 false (T.tok i).pos (max (T.endOf j) (T.tok i).pos)
theorem B8E (a:Nat) (ha:a<256) (q:Nat) (hq:q<8) (h:bit a q=false):a+2 ^ q<256:=by
 have key:∀a<256,∀q<8,bit a q=false->a+2 ^ q<256:=by decide+kernel
 exact key a ha q hq h
theorem A7B (T:Src):∀(f n:Nat) (s:St),n<256->(A9q T f n s).1<256
 |0,n,s,h=>h
 |f+1,n,s,h=>by
  rw[A9q];split
  ·exact h
  ·dsimp only
   split
   ·exact h
   ·rename_i h2
    generalize hqd:((T.tok s.i).text.getD 0 0).toNat-97=q;have hq:q<8:=by
     simp only[B5m,Bool.not_eq_true,Bool.not_eq_false',Q7,decide_eq_true_eq]at h2;omega
    cases hb:bit n q with
    |true=>
     simp only[if_true];split
     ·exact A7B T f _ _ h
     ·split
      ·exact A7B T f _ _ h
      ·exact h
    |false=>
     have hn:=B8E n h q hq hb;simp only[A4I,if_false];split
     ·exact A7B T f _ _ hn
     ·split
      ·exact A7B T f _ _ hn
      ·exact hn
theorem B0x (T:Src) (s:St):(lab T s).1<256:=by
 rw[lab];split
 ·exact A7B T _ _ _ (by decide)
 ·dsimp only;omega
theorem A9z {T:Src}{p:PE}{q:PS} (h:AtE T p) (g:AtS T q):∀f,(∀d s,V5 p q (block T f d s).1)/\(∀d l s,V5 p q l->V5 p q (A4j T f d l s).1)/\(∀d s,(stm T f d s).1.all p q)
 |0=>⟨fun _ _=>by rw[block];exact Y3,fun _ _ _ h1=>by rw[A4j];exact h1,fun _ s=>by
   rw[stm];show (Stm.mk 0 [] 0 0 false (.mk 0 [] 0 [] 0 0) [] [] 0 0).all p q
   rw[Stm.all];exact⟨g.zero,A3d h.zero,Y3,Y3⟩⟩
 |f+1=>by
  obtain⟨hB,hL,hS⟩:=A9z h g f;have hE:=(B1f h f).2.2.1;refine⟨fun d s=>?_,fun d l s h1=>?_,fun d s=>?_⟩
  ·rw[block]
   split
   ·exact Y3
   ·split
    ·exact Y3
    ·dsimp only
     exact hL _ _ _ Y3
  ·rw[A4j]
   split
   ·exact h1
   ·split
    ·exact h1
    ·dsimp only
     exact hL _ _ _ (A8l h1 (B2r (hS d s)))
  ·rw[stm]
   dsimp only
   split
   ·rw[Stm.all]
    refine⟨g.let_ s.i s.next _ _ _ ?_,hE _ _ _,Y3,Y3⟩
    split
    ·dsimp only;omega
    ·exact A5T (B0x T _)
   ·split
    ·split
     ·dsimp only;rw[Stm.all];exact⟨g.plain _ _ _ (.inl rfl),hE _ _ _,hB _ _,hB _ _⟩
     ·dsimp only;rw[Stm.all];exact⟨g.plain _ _ _ (.inl rfl),hE _ _ _,hB _ _,Y3⟩
    ·split
     ·rw[Stm.all];exact⟨g.plain _ _ _ (.inr (.inl rfl)),hE _ _ _,hB _ _,Y3⟩
     ·split
      ·rw[Stm.all];exact⟨g.send s.i s.next _,hE _ _ _,Y3,Y3⟩
      ·split
       ·rw[Stm.all];exact⟨g.plain _ _ _ (.inr (.inr (.inl rfl))),hE _ _ _,Y3,Y3⟩
       ·split
        ·rename_i hn
         split
         ·rw[Stm.all];exact⟨g.set _ _ hn,hE _ _ _,Y3,Y3⟩
         ·rw[Stm.all];exact⟨g.plain _ _ _ (.inr (.inr (.inr (.inl rfl)))),hE _ _ _,Y3,Y3⟩
        ·rw[Stm.all]
         refine⟨g.plain _ _ _ (.inr (.inr (.inr (.inr rfl)))),?_,Y3,Y3⟩
         exact A3d h.zero
theorem B1g {T:Src}{r:Par->Prop} (h:∀(s:St) lb,lb<=255->r ⟨(s.named T).1,lb,(T.tok s.i).pos⟩):∀(f:Nat) (l:List Par) (s:St),(∀x∈l,r x)->∀x∈(A5v T f l s).1,r x
 |0,l,s,h1=>by rw[A5v];exact h1
 |f+1,l,s,h1=>by
  rw[A5v];split
  ·exact h1
  ·split
   ·exact h1
   ·dsimp only
    split
    ·exact h1
    ·have h2:∀lb,lb<=255->∀x∈l++ [⟨(s.named T).1,lb,(T.tok s.i).pos⟩],r x:=fun lb hl x hx=>by
      rcases A0T.1 hx with hx|hx
      ·exact h1 x hx
      ·obtain rfl:=A1R.1 hx
       exact h s lb hl
     have h3:=fun s=>A5T (B0x T s)
     split
     ·exact B1g h f _ _ (h2 _ (h3 _))
     ·exact h2 _ (h3 _)
theorem B1h {T:Src}{r:Rf->Prop} (h:∀(s:St),r ⟨(s.named T).1,(T.tok s.i).pos⟩):∀(f:Nat) (l:List Rf) (s:St),(∀x∈l,r x)->∀x∈(A40 T f l s).1,r x
 |0,l,s,h1=>by rw[A40];exact h1
 |f+1,l,s,h1=>by
  rw[A40];split
  ·exact h1
  ·dsimp only
   have h2:∀x∈l++ [⟨(s.named T).1,(T.tok s.i).pos⟩],r x:=fun x hx=>by
    rcases A0T.1 hx with hx|hx
    ·exact h1 x hx
    ·obtain rfl:=A1R.1 hx
     exact h s
   split
   ·exact B1h h f _ _ h2
   ·exact h2
structure ItAll (T:Src) (p:PE) (q:PS) (r:Par->Prop) (t:Rf->Prop) (it:Itm):Prop where
 body:V5 p q it.body
 params:∀x∈it.params,r x
 sends:∀x∈it.sends,t x
 few:it.params.length<=5/\it.sends.length<=5/\it.body.length<=40
 label:it.label<=255
 kind:1<=it.kind/\it.kind<=3
 mark:(it.name= []/\((∃i,it.mark=(T.tok i).pos)\/it.mark=0))\/∃s:St,it.name=(s.named T).1/\it.mark=(T.tok s.i).pos
 bad:it.kind=3->it.name= []/\it.label=0/\it.params= []/\it.sends= []/\it.body= []
 chan:it.kind=1->it.params= []/\it.sends= []/\it.body= []
theorem B1N {src:List UInt8}{p:PE}{q:PS}{r:Par->Prop}{t:Rf->Prop} (at_:Int) (h:AtE ⟨O6 src,src.length⟩ p) (g:AtS ⟨O6 src,src.length⟩ q)
  (hr:∀(s:St) lb,lb<=255->r ⟨(s.named ⟨O6 src,src.length⟩).1,lb,((⟨O6 src,src.length⟩:Src).tok s.i).pos⟩)
  (ht:∀(s:St),t ⟨(s.named ⟨O6 src,src.length⟩).1,((⟨O6 src,src.length⟩:Src).tok s.i).pos⟩):ItAll ⟨O6 src,src.length⟩ p q r t (item src at_):=by
 rw[item];generalize (⟨O6 src,src.length⟩:Src)=T at h g hr ht |-;dsimp only
 split
 ·dsimp only[A5m]
  have h6:∀(c:Bool) (y z:St),∀x∈(if c=true then A40 T 6 [] y else ([],z)).1,t x:=fun c y z=>by
   split
   ·exact B1h ht _ _ _ (by simp)
   ·simp
  have l6:∀(c:Bool) (y z:St),(if c=true then A40 T 6 [] y else ([],z)).1.length<=5:=fun c y z=>by
   split
   ·exact(A6D T 6 [] _ (by simp)).1
   ·simp
  exact⟨(A9z h g _).1 _ _,B1g hr _ _ _ (by simp),h6 _ _ _,⟨(A6w T 6 [] _ (by simp)).1,l6 _ _ _,((A6C T _).1 _ _).1⟩,A5T (B0x T _),⟨by simp,by simp⟩,.inr ⟨⟨1,[]⟩,rfl,rfl⟩,fun h=>(by simp at h),fun h=>(by simp at h)⟩
 ·split
  ·dsimp only[A9E]
   exact⟨Y3,by simp,by simp,⟨by simp,by simp,by simp⟩,A5T (B0x T _),⟨by simp,by simp⟩,.inr ⟨⟨1,[]⟩,rfl,rfl⟩,fun h=>(by simp at h),fun _=>⟨rfl,rfl,rfl⟩⟩
  ·dsimp only
   exact⟨Y3,by simp,by simp,⟨by simp,by simp,by simp⟩,by simp,⟨by simp,by simp⟩,.inl ⟨rfl,.inr rfl⟩,fun _=>⟨rfl,rfl,rfl,rfl,rfl⟩,fun h=>(by simp at h)⟩
def A7Z:PS:=fun _ _ _ l _ _ _=>l<256
def A7Q:PE:=fun _ _ _ _ _ _=>True
inductive Runs (T:Src):St->St->Prop where
 |refl (s:St):Runs T s s
 |bad {s r:St} (e:Nat):Runs T s r->Runs T s (r.bad T e)
 |next {s r:St}:Runs T s r->Runs T s r.next
theorem Runs.trans {T:Src}{s r q:St} (h:Runs T s r) (g:Runs T r q):Runs T s q:=by
 induction g with
 |refl=>exact h
 |bad e _ ih=>exact .bad e ih
 |next _ ih=>exact .next ih
theorem Runs.on {T:Src}{s r:St} (h:Runs T s r):s.i<=r.i:=by
 induction h with
 |refl=>exact H6 _
 |bad e _ ih=>exact ih
 |next _ ih=>exact Nat.le_succ_of_le ih
def B5F (s:List UInt8) (f u:Int) (x:List UInt8):Nat:=if f<0\/u<f\/u>s.length then 3 else if x.length>4000\/(s.length:Int)-(u-f)+x.length>4000 then 4 else 0
def B8X (s:List UInt8) (f u:Int) (x:List UInt8):List UInt8:=if B5F s f u x=0 then s.take f.toNat++x++s.drop u.toNat else []
theorem A7Y (s:List UInt8) (cs:List Nat):(A4G s cs).length=cs.length:=by simp[A4G]
theorem A9R (s:List UInt8) (cs:List Nat) {k:Nat} (h:k<cs.length):(A4G s cs)[k]?=some (A2Q s cs k):=by
 simp[A4G,h]
structure ItIn (s:List UInt8) (k:Nat) (it:Itm):Prop where
 at0:0<=it.at_
 size:1<=it.size
 top:it.at_+it.size<=s.length
 ends:it.at_+it.size=(match (P8 s)[k+1]? with|some j=>j.at_|none=>(s.length:Int))
 diags:∀d∈it.diags,d.fr<=d.to/\d.to<=it.size
 small:it.small
 len:s.length<=4000
theorem A9Q (src:List UInt8) (at_:Int):(item src at_).size=src.length/\(item src at_).at_=at_:=⟨B4Q src at_,B0v src at_⟩
def A7A (k:Int) (n:List UInt8) (it:Itm):Bool:=decide ((it.kind:Int)=k) && (decide (it.name=n) && decide (n≠ []))
def A0M (its:List Itm) (k:Int) (n:List UInt8):Option Nat:=its.findIdx? (A7A k n)
structure Lc where
 name:List UInt8
 at_:Nat
structure Us where
 fr:Int
 to:Int
 df:Int
 deriving DecidableEq
structure NW where
 ds:List Dg
 us:List Us
def NW.tell (s:NW) (a e:Nat) (n:List UInt8):NW:= { s with ds:=s.ds++ [⟨a,a+n.length,e,n⟩]}
def NW.use (s:NW) (b:Int) (a:Nat) (n:List UInt8) (d:Int):NW:= { s with us:=s.us++ [⟨b+a,b+a+n.length,d⟩]}
def A1e:List Lc->List UInt8->Option Lc
 | [],_=>none
 |l::sc,n=>match A1e sc n with
  |some x=>some x
  |none=>if l.name=n then some l else none
def B8J:Itm:=⟨0,[],0,[],[],[],0,0,0,[]⟩
def Z7 (its:List Itm) (j:Nat):Itm:=its.getD j B8J
def A7e (b:Int) (sc:List Lc) (a:Nat) (n:List UInt8) (s:NW):NW:=match A1e sc n with
 |some l=>s.use b a n (b+l.at_)
 |none=>if n= [] then s else s.tell a 6 n
def A34 (its:List Itm) (b:Int) (k:Int) (a:Nat) (n:List UInt8) (s:NW):NW:=match A0M its k n with
 |some j=>s.use b a n ((Z7 its j).at_+(Z7 its j).mark)
 |none=>if n= [] then s else s.tell a 6 n
def A4m (its:List Itm) (b:Int) (a:Nat) (n:List UInt8) (m:Nat) (s:NW):NW:=match A0M its 2 n with
 |some j=>if (Z7 its j).params.length≠m then (A34 its b 2 a n s).tell a 5 n else A34 its b 2 a n s
 |none=>A34 its b 2 a n s
def mkN (n:List UInt8) (a:Nat) (sc:List Lc) (s:NW):List Lc×NW:=
 if n= [] then (sc,s) else (sc++ [⟨n,a⟩],match A1e sc n with|some _=>s.tell a 7 n|none=>s)
mutual
def exN (its:List Itm) (b:Int) (sc:List Lc):Ex->NW->NW
 | .mk k nm _ args fr _,s=>A33 its b sc args (if k=2 then A7e b sc fr nm s else if k=4 then A4m its b fr nm args.length s else s)
def A33 (its:List Itm) (b:Int) (sc:List Lc):List Ex->NW->NW
 | [],s=>s
 |e::es,s=>A33 its b sc es (exN its b sc e s)
 end
mutual
def A4b (its:List Itm) (b:Int):Stm->List Lc->NW->List Lc×NW
 | .mk k nm a _ _ e thn els _ _,sc,s=>
  if k=1 then mkN nm a sc (exN its b sc e s) else
  if k=2 then (sc,A7e b sc a nm (exN its b sc e s)) else
  if k=5 then (sc,A34 its b 1 a nm (exN its b sc e s)) else
  if k=3\/k=4 then (sc,(A0J its b els sc (A0J its b thn sc (exN its b sc e s)).2).2) else (sc,exN its b sc e s)
def A0J (its:List Itm) (b:Int):List Stm->List Lc->NW->List Lc×NW
 | [],sc,s=>(sc,s)
 |x::xs,sc,s=>A0J its b xs (A4b its b x sc s).1 (A4b its b x sc s).2
 end
def A3r:List Par->List Lc->NW->List Lc×NW
 | [],sc,s=>(sc,s)
 |p::ps,sc,s=>A3r ps (mkN p.name p.at_ sc s).1 (mkN p.name p.at_ sc s).2
def A4t (its:List Itm) (b:Int) (dn:List Rf) (c:Rf) (s:NW):NW:=
 if c.name≠ []/\dn.any (fun x=>decide (x.name=c.name))=true then (A34 its b 1 c.at_ c.name s).tell c.at_ 7 c.name else A34 its b 1 c.at_ c.name s
def A3W (its:List Itm) (b:Int):List Rf->List Rf->NW->NW
 |_,[],s=>s
 |dn,c::cs,s=>A3W its b (dn++ [c]) cs (A4t its b dn c s)
def NW0:NW:=⟨[],[]⟩
def A6m (its:List Itm) (i:Nat) (it:Itm):Bool:=decide (it.kind≠3) && (decide (it.name≠ []) && (its.take i).any (fun x=>decide (x.kind=it.kind) && decide (x.name=it.name)))
def fnN (its:List Itm) (it:Itm) (s:NW):NW:=
 (A0J its it.at_ it.body (A3r it.params [] s).1 (A3W its it.at_ [] it.sends (A3r it.params [] s).2)).2
def A4o (its:List Itm) (i:Nat):NW:=
 if (Z7 its i).kind=2 then fnN its (Z7 its i) (if A6m its i (Z7 its i)=true then NW0.tell (Z7 its i).mark 7 (Z7 its i).name else NW0)
 else if A6m its i (Z7 its i)=true then NW0.tell (Z7 its i).mark 7 (Z7 its i).name else NW0
def A2Y (its:List Itm) (k:Nat):List Us:=(List.range k).flatMap (fun i=>(A4o its i).us)
def A6G (its:List Itm):List Us:=A2Y its its.length
theorem A8o (its:List Itm) (k:Nat):A2Y its (k+1)=A2Y its k++(A4o its k).us:=by
 rw[A2Y,List.range_succ,A0F, <-A2Y];simp
theorem B1y (its:List Itm) (b:Int) (sc:List Lc):∀(l r:List Ex) (s:NW),A33 its b sc (l++r) s=A33 its b sc r (A33 its b sc l s)
 | [],r,s=>by rw[Y5,A33]
 |e::l,r,s=>by rw[A0a,A33,A33,B1y its b sc l r]
theorem B0e (its:List Itm) (b:Int):∀(l r:List Stm) (sc:List Lc) (s:NW),A0J its b (l++r) sc s=A0J its b r (A0J its b l sc s).1 (A0J its b l sc s).2
 | [],r,sc,s=>by rw[Y5,A0J]
 |e::l,r,sc,s=>by rw[A0a,A0J,A0J,B0e its b l r]
theorem X0 {α:Type}{l:List α}{k:Nat}{x:α} (h:l[k]?=some x):l.take (k+1)=l.take k++ [x]:=by rw[A4J,h];rfl
theorem B4C (its:List Itm) (b:Int) (sc:List Lc) {l:List Ex}{k:Nat}{e:Ex} (h:l[k]?=some e) (s:NW):A33 its b sc (l.take (k+1)) s=exN its b sc e (A33 its b sc (l.take k) s):=by
 rw[X0 h,B1y,A33,A33]
theorem B3C (its:List Itm) (b:Int) {l:List Stm}{k:Nat}{x:Stm} (h:l[k]?=some x) (sc:List Lc) (s:NW):
  A0J its b (l.take (k+1)) sc s=A4b its b x (A0J its b (l.take k) sc s).1 (A0J its b (l.take k) sc s).2:=by
 rw[X0 h,B0e,A0J,A0J]
theorem B2j:∀(l r:List Par) (sc:List Lc) (s:NW),A3r (l++r) sc s=A3r r (A3r l sc s).1 (A3r l sc s).2
 | [],r,sc,s=>by rw[Y5,A3r]
 |e::l,r,sc,s=>by rw[A0a,A3r,A3r,B2j l r]
theorem B47 {l:List Par}{k:Nat}{x:Par} (h:l[k]?=some x) (sc:List Lc) (s:NW):A3r (l.take (k+1)) sc s=mkN x.name x.at_ (A3r (l.take k) sc s).1 (A3r (l.take k) sc s).2:=by
 rw[X0 h,B2j,A3r,A3r]
theorem B2p (its:List Itm) (b:Int):∀(l r:List Rf) (dn:List Rf) (s:NW),A3W its b dn (l++r) s=A3W its b (dn++l) r (A3W its b dn l s)
 | [],r,dn,s=>by rw[Y5,A18,A3W]
 |e::l,r,dn,s=>by rw[A0a,A3W,A3W,B2p its b l r];simp
theorem B5g (its:List Itm) (b:Int) {l:List Rf}{k:Nat}{x:Rf} (h:l[k]?=some x) (s:NW):A3W its b [] (l.take (k+1)) s=A4t its b (l.take k) x (A3W its b [] (l.take k) s):=by
 rw[X0 h,B2p,Y5,A3W,A3W]
theorem A6r (n:List UInt8) (x:Lc):∀(l:List Lc),A1e (l++ [x]) n=if x.name=n then some x else A1e l n
 | []=>by simp[A1e]
 |a::l=>by
  rw[A0a,A1e,A6r n x l,A1e];split<;>rename_i h
  ·split at h
   ·rename_i h2;rw[if_pos h2];exact h.symm
   ·rename_i h2;rw[if_neg h2,h]
  ·split at h
   ·cases h
   ·rename_i h2;rw[if_neg h2,h]
theorem A64 {n:List UInt8}{x:Lc}:∀ {l:List Lc},A1e l n=some x->x∈l/\x.name=n
 | [],h=>by cases h
 |a::l,h=>by
  rw[A1e]at h;split at h
  ·rename_i y hy
   obtain rfl:=A1g h;have:=A64 hy;exact⟨A3L _ this.1,this.2⟩
  ·split at h
   ·rename_i hn
    obtain rfl:=A1g h;exact⟨Y1,hn⟩
   ·cases h
def NW.n (s:NW):Nat:=s.ds.length+s.us.length
theorem A7j (s:NW) (a e:Nat) (n:List UInt8):(s.tell a e n).n=s.n+1:=by simp[NW.tell,NW.n];omega
theorem B7Q (s:NW) (b:Int) (a:Nat) (n:List UInt8) (d:Int):(s.use b a n d).n=s.n+1:=by simp[NW.use,NW.n];omega
theorem B3a (b:Int) (sc:List Lc) (a:Nat) (n:List UInt8) (s:NW):s.n<=(A7e b sc a n s).n/\(A7e b sc a n s).n<=s.n+1:=by
 rw[A7e];split
 ·rw[B7Q];omega
 ·split
  ·omega
  ·rw[A7j];omega
theorem A8W (its:List Itm) (b:Int) (k:Int) (a:Nat) (n:List UInt8) (s:NW):s.n<=(A34 its b k a n s).n/\(A34 its b k a n s).n<=s.n+1:=by
 rw[A34];split
 ·rw[B7Q];omega
 ·split
  ·omega
  ·rw[A7j];omega
theorem B3W (its:List Itm) (b:Int) (a:Nat) (n:List UInt8) (m:Nat) (s:NW):s.n<=(A4m its b a n m s).n/\(A4m its b a n m s).n<=s.n+2:=by
 have:=A8W its b 2 a n s;rw[A4m];split
 ·split
  ·rw[A7j];omega
  ·omega
 ·omega
theorem B7M (n:List UInt8) (a:Nat) (sc:List Lc) (s:NW):s.n<=(mkN n a sc s).2.n/\(mkN n a sc s).2.n<=s.n+1/\sc.length<=(mkN n a sc s).1.length/\(mkN n a sc s).1.length<=sc.length+1:=by
 rw[mkN];split
 ·exact⟨H6 _,by dsimp only;omega,H6 _,by dsimp only;omega⟩
 ·dsimp only
  rw[Y4,List.length_singleton];split
  ·rw[A7j];omega
  ·omega
mutual
theorem B5M (its:List Itm) (b:Int) (sc:List Lc):∀(e:Ex) (s:NW),s.n<=(exN its b sc e s).n/\(exN its b sc e s).n<=s.n+2 *e.cnt
 | .mk k nm n args fr to,s=>by
  rw[exN,Ex.cnt];have h1:=B3a b sc fr nm s;have h2:=B3W its b fr nm args.length s;have h3:=B2S its b sc args (if k=2 then A7e b sc fr nm s else if k=4 then A4m its b fr nm args.length s else s);generalize hq:(if k=2 then A7e b sc fr nm s else if k=4 then A4m its b fr nm args.length s else s)=q at h3 |-;have h4:s.n<=q.n/\q.n<=s.n+2:=by
   rw[<-hq];split
   ·omega
   ·split<;>omega
  omega
theorem B2S (its:List Itm) (b:Int) (sc:List Lc):∀(l:List Ex) (s:NW),s.n<=(A33 its b sc l s).n/\(A33 its b sc l s).n<=s.n+2 *A0Y l
 | [],s=>by rw[A33,A0Y];omega
 |e::l,s=>by
  rw[A33,A0Y];have h1:=B5M its b sc e s;have h2:=B2S its b sc l (exN its b sc e s);omega
 end
mutual
theorem B8D (its:List Itm) (b:Int):∀(x:Stm) (sc:List Lc) (s:NW),s.n<=(A4b its b x sc s).2.n/\(A4b its b x sc s).2.n<=s.n+2 *x.cnt/\sc.length<=(A4b its b x sc s).1.length/\(A4b its b x sc s).1.length<=sc.length+1
 | .mk k nm a lb o e thn els f t,sc,s=>by
  rw[A4b,Stm.cnt];have h1:=B5M its b sc e s;generalize exN its b sc e s=q at h1 |-;have h2:=B7M nm a sc q;have h3:=B3a b sc a nm q;have h4:=A8W its b 1 a nm q;have h5:=A6c its b thn sc q;have h6:=A6c its b els sc (A0J its b thn sc q).2;split
  ·omega
  ·split
   ·dsimp only;omega
   ·split
    ·dsimp only;omega
    ·split
     ·dsimp only;omega
     ·dsimp only;omega
theorem A6c (its:List Itm) (b:Int):∀(l:List Stm) (sc:List Lc) (s:NW),s.n<=(A0J its b l sc s).2.n/\(A0J its b l sc s).2.n<=s.n+2 *P6 l/\sc.length<=(A0J its b l sc s).1.length/\(A0J its b l sc s).1.length<=sc.length+l.length
 | [],sc,s=>by rw[A0J,P6];exact⟨by dsimp only;omega,by dsimp only;omega,by dsimp only;omega,by dsimp only;simp⟩
 |x::l,sc,s=>by
  rw[A0J,P6,X8];have h1:=B8D its b x sc s;have h2:=A6c its b l (A4b its b x sc s).1 (A4b its b x sc s).2;omega
 end
theorem B7e (n:List UInt8) (a:Nat) (sc:List Lc) (s:NW):sc<+:(mkN n a sc s).1:=by
 rw[mkN];split
 ·exact A1T _
 ·exact List.prefix_append _ _
theorem B6A (its:List Itm) (b:Int) (x:Stm) (sc:List Lc) (s:NW):sc<+:(A4b its b x sc s).1:=by
 cases x with
 |mk k nm a lb o e thn els f t=>
 rw[A4b];split
 ·exact B7e _ _ _ _
 ·split
  ·exact A1T _
  ·split
   ·exact A1T _
   ·split
    ·exact A1T _
    ·exact A1T _
theorem B0f (its:List Itm) (b:Int):∀(l:List Stm) (sc:List Lc) (s:NW),sc<+:(A0J its b l sc s).1
 | [],sc,s=>by rw[A0J];exact A1T _
 |x::l,sc,s=>by rw[A0J];exact(B6A its b x sc s).trans (B0f its b l _ _)
theorem B3B (its:List Itm) (b:Int) (l:List Stm) (sc:List Lc) (s:NW):(A0J its b l sc s).1.take sc.length=sc:=
 (List.prefix_iff_eq_take.1 (B0f its b l sc s)).symm
theorem Ex.cnt_eq (e:Ex):e.cnt=A0Y e.args+1:=by cases e;rw[Ex.cnt];rfl
theorem A6q {l:List Ex}{k:Nat}{y:Ex} (h:l[k]?=some y):A0Y (l.take k)+y.cnt<=A0Y l:=by
 have e:l=l.take (k+1)++l.drop (k+1):=(A5L _ _).symm;have h2:=congrArg A0Y e;rw[A3l,X0 h,A3l,A4B]at h2;omega
theorem Stm.cnt_eq (x:Stm):x.cnt=x.e.cnt+P6 x.thn+P6 x.els+1:=by cases x;rw[Stm.cnt];rfl
theorem A6l {l:List Stm}{k:Nat}{y:Stm} (h:l[k]?=some y):P6 (l.take k)+y.cnt<=P6 l:=by
 have e:l=l.take (k+1)++l.drop (k+1):=(A5L _ _).symm;have h2:=congrArg P6 e;rw[A2q,X0 h,A2q,A4c]at h2;omega
theorem A59 {p:PE}{q:PS}:∀ {l:List Stm} (k:Nat),V5 p q l->V5 p q (l.take k)
 | [],k,h=>by rw[List.take_nil];exact h
 |x::l,0,h=>by rw[A07];exact Y3
 |x::l,k+1,h=>by
  rw[V5]at h;rw[A1G,V5];exact⟨h.1,A59 k h.2⟩
end Go.Sp
namespace Go.Proofs
open Go.Proofs.Tryz
open Go.Sp
open Go.Fw
structure CpX where
 k:Nat
 I:U0
 a:Option Addr
 cp:Nat
 xs:List Value
abbrev B8M (e:Sp.Ex):Value->U0->List HItem->Prop:=fun v I' H'=>H'= []/\∃ea ec xs,v=.agg (A0G e ea ec).toArray/\RowI I' 107 6 (.slice ea e.args.length ec) e.args.length xs/\V7 I' e.args xs
theorem A90:∀(n:Nat) (e:Sp.Ex),SizeOf.sizeOf e<=n->e.small->∀(I:U0) (ea:Option Addr) (ec:Nat) (xs:List Value),RowI I 107 6 (.slice ea e.args.length ec) e.args.length xs->V7 I e.args xs->
  CalM prog 102 #[.agg (A0G e ea ec).toArray] I [] (B8M e):=by
 intro n;induction n with
 |zero=>intro e h;cases e;simp at h
 |succ n ih=>
 intro e hsz hsm I ea ec xs hr hx;obtain⟨hal,hasm⟩:=A3s hsm;refine CalM.of fun w E hm=>enter (N:=22) func102 rfl [(0,.agg (A0G e ea ec).toArray)] A0v rfl ?_
 repeat' (first|refine A0z (d:=1) ?_ hm;clear hm;intro b1 _ hm|refine V6 (d:=2) ?_ hm;clear hm;intro b2 _ hm|refine H8 ?_ hm|refine D8 ?_|refine D5 ?_|refine G8 ?_|refine C9 ?_|refine D9 ?_|refine A7 ?_|refine E8 ?_|refine A8 ?_|refine F5 ?_)
 have hm:=hm.nil 107 6;refine X7 (fun x:CpX=> [(1,ptr b1),(2,ptr b2),(3,.slice x.a x.k x.cp),(7,.slice ea e.args.length ec),(8,nt e.args.length),(9,nt x.k)])
  (fun x w'=>Mem E x.I [B2I x.k x.a x.cp x.xs,.cell b2 ex0 107,.cell b1 (A0G e ea ec) 107] w'/\Le I x.I/\V7 x.I (e.args.take x.k) x.xs/\x.k<=e.args.length)
  (fun x=>e.args.length-x.k) ⟨0,I,none,0,[]⟩ (by exact⟨rfl,rfl,rfl,rfl,rfl,rfl,trivial⟩) ⟨hm,Le.refl _,.nil,J7 _⟩ ?_
 clear hm;rintro⟨k,I1,a1,cp1,xs1⟩ w2 ⟨hm,hle1,hxs,hk⟩;dsimp only at hm hle1 hxs hk |-;by_cases hlt:k<e.args.length
 ·have hg:e.args[k]?=some e.args[k]:=G9 hlt
  have hme:e.args[k]∈e.args:=Q8 hlt;obtain⟨ea2,ec2,xs2,hc2,hr2,hx2⟩:=(hx.get hg).out;have hsm2:=A12 hasm hg;have hsz2:=A3V hme;generalize e.args[k]=y at hg hc2 hr2 hx2 hsm2 hsz2;have hcall:=fun (I':U0) (m:Le I I')=>ih y (by omega) hsm2 I' ea2 ec2 xs2 (hr2.le m) (V7.le m _ _ hx2)
  have htk:e.args.take (k+1)=e.args.take k++ [y]:=by rw[A4J,hg];rfl
  have hri:=hr.le hle1;repeat' (first|refine U3 ?_ (hr:=hri);intro bt ot hpt;rw[show ((k:Int).toNat *6)=k *6 from rfl,hc2]at hpt|refine F6 ?_ hm (hc:=hcall _ hle1);clear hm;rintro _ I2 _ _ ⟨rfl,ea3,ec3,xs3,rfl,hr3,hx3⟩ hle hm;have hleI2:=hle;try simp only[F7]at hm|refine A0j (d:=5) ?_ hm;clear hm;intro b5 _ hm|refine A3A (d:=17) ?_ hm;clear hm;intro a17 cp17 _ _ hm;try simp only[F7]at hm|refine O1 ?_ hm|refine Y8 ?_ hm|refine D8 ?_|refine D5 ?_|refine O0 ?_|refine Q4 ?_|refine D9 ?_|refine A7 ?_|refine D7 ?_|refine E8 ?_|refine A8 ?_|refine F5 ?_|refine F9 ?_|(refine D6 (ht:=fun _=>?_) (hf:=fun _=>?_)<;>try first|contradiction|omega))
  all_goals try omega
  refine N7 (⟨k+1,I2,_,_,_⟩:CpX) (by exact⟨rfl,rfl,rfl,rfl,rfl,rfl,trivial⟩) ⟨hm.tl,hle1.trans hleI2,?_,by dsimp only;omega⟩ (by dsimp only;omega)
  dsimp only
  rw[htk];exact(V7.le hleI2 _ _ hxs).snoc (A4A hr3 hx3)
 ·obtain rfl:k=e.args.length:=by omega
  rw[A0b]at hxs;repeat' (first|refine O1 ?_ hm|refine O4 ?_ hm;clear hm;intro _ hm;try simp only[F7]at hm|refine J6 hm (k:=?_);clear hm;intro _ hm;try simp only[F7]at hm|refine V3 ?_ hm|refine D8 ?_|refine O0 ?_|refine C9 ?_|refine D9 ?_|refine A7 ?_|refine G7 ?_|refine G5 ?_|refine E8 ?_|refine A8 ?_|refine O7 ?_|refine H7 ?_|(refine D6 (ht:=fun _=>?_) (hf:=fun _=>?_)<;>try first|contradiction|omega))
  all_goals try omega
  obtain⟨I3,hle3,hm3,hrow3⟩:=(hm.front 0 rfl).freeze;exact⟨I3,[],⟨rfl,a1,cp1,xs1,rfl,hrow3,V7.le hle3 _ _ hxs⟩,hm3.left (H:= [])⟩
abbrev B8N (l:List Sp.Stm):Value->U0->List HItem->Prop:=fun v I' H'=>H'= []/\∃a c xs,v=.slice a l.length c/\RowI I' 109 15 (.slice a l.length c) l.length xs/\U8 I' l xs
theorem B3m:∀(n:Nat) (l:List Sp.Stm),SizeOf.sizeOf l<=n->l.length<=64->W9 l->∀(I:U0) (a:Option Addr) (c:Nat) (xs:List Value),RowI I 109 15 (.slice a l.length c) l.length xs->U8 I l xs->
  CalM prog 73 #[.slice a l.length c] I [] (B8N l):=by
 intro n;induction n with
 |zero=>intro l h;cases l<;>simp at h
 |succ n ih=>
 intro l hsz hll hsm I a c xs hr hx;refine CalM.of fun w E hm=>enter (N:=30) func73 rfl [(0,.slice a l.length c)] A0v rfl ?_
 repeat' (first|refine D8 ?_|refine D5 ?_|refine G8 ?_|refine D9 ?_|refine A7 ?_|refine E8 ?_|refine A8 ?_|refine F5 ?_)
 have hm:=hm.nil 109 15;refine X7 (fun x:CpX=> [(3,.slice x.a x.k x.cp),(6,.slice a l.length c),(7,nt l.length),(8,nt x.k)])
  (fun x w'=>Mem E x.I [B2q x.k x.a x.cp x.xs] w'/\Le I x.I/\U8 x.I (l.take x.k) x.xs/\x.k<=l.length)
  (fun x=>l.length-x.k) ⟨0,I,none,0,[]⟩ (by exact⟨rfl,rfl,rfl,rfl,trivial⟩) ⟨hm,Le.refl _,.nil,J7 _⟩ ?_
 clear hm;rintro⟨k,I1,a1,cp1,xs1⟩ w2 ⟨hm,hle1,hxs,hk⟩;dsimp only at hm hle1 hxs hk |-;by_cases hlt:k<l.length
 ·have hg:l[k]?=some l[k]:=G9 hlt
  have hme:=A3U (Q8 hlt);obtain⟨ea2,ec2,ex2,a2,c2,xs2,a3,c3,xs3,hc2,hr2,hx2,hr3,hx3,hr4,hx4⟩:=(hx.get hg).out;have hsm2:=A1N hsm hg;generalize l[k]=y at hg hc2 hr2 hx2 hr3 hx3 hr4 hx4 hsm2 hme;obtain⟨s1,s2,s3,s4,s5⟩:=A15 hsm2;obtain⟨z1,z2⟩:=A4T (s:=y);have hce:=fun (I':U0) (m:Le I I')=>A90 (SizeOf.sizeOf y.e) y.e (H6 _) s1 I' ea2 ec2 ex2 (hr2.le m) (V7.le m _ _ hx2)
  have hct:=fun (I':U0) (m:Le I I')=>ih y.thn (by omega) s2 s3 I' a2 c2 xs2 (hr3.le m) (U8.le m _ _ hx3)
  have hcl:=fun (I':U0) (m:Le I I')=>ih y.els (by omega) s4 s5 I' a3 c3 xs3 (hr4.le m) (U8.le m _ _ hx4)
  have htk:l.take (k+1)=l.take k++ [y]:=by rw[A4J,hg];rfl
  have hri:=hr.le hle1;repeat' (first|refine A4Y (id:=5) (hm.perm pm0) [([0,1,3,4,6,7],[2]),([9],[5]),([],[8])] 10 (h:=?_);clear hm;intro wd hR hm|refine U3 ?_ (hr:=hri);intro bt ot hpt;rw[show ((k:Int).toNat *15)=k *15 from rfl,hc2]at hpt|refine A02 (d:=14) ?_ hm (hc:=hce _ hle1);clear hm;rintro _ I2 _ _ ⟨rfl,ea3,ec3,ex3,rfl,hr5,hx5⟩ hle hm;have hleI2:=hle;try simp only[F7]at hm|refine A02 (d:=17) ?_ hm (hc:=hct _ (hle1.trans hleI2));clear hm;rintro _ I3 _ _ ⟨rfl,a4,c4,xs4,rfl,hr6,hx6⟩ hle hm;have hleI3:=hle;try simp only[F7]at hm|refine A02 (d:=20) ?_ hm (hc:=hcl _ ((hle1.trans hleI2).trans hleI3));clear hm;rintro _ I4 _ _ ⟨rfl,a5,c5,xs5,rfl,hr7,hx7⟩ hle hm;have hleI4:=hle;try simp only[F7]at hm|refine A0g ?_ hR|refine B13 ?_ hR|refine A7N ?_|refine A7M ?_|refine A1m ?_|refine B5z ?_|refine A9k ?_;replace hm:=hR.back hm;clear hR;try simp only[F7]at hm|refine A0j (d:=5) ?_ hm;clear hm;intro b5 _ hm|refine A3A (d:=27) ?_ hm;clear hm;intro a27 cp27 _ _ hm;try simp only[F7]at hm|refine O1 ?_ hm|refine Y8 ?_ hm|refine J6 hm (k:=?_);clear hm;intro _ hm;try simp only[F7]at hm|refine A1y ?_ hm;clear hm;intro _ hm;try simp only[F7]at hm|refine D8 ?_|refine D5 ?_|refine O0 ?_|refine Q4 ?_|refine C9 ?_|refine D9 ?_|refine A7 ?_|refine D7 ?_|refine E8 ?_|refine A8 ?_|refine F5 ?_|refine F9 ?_|(refine D6 (ht:=fun _=>?_) (hf:=fun _=>?_)<;>try first|contradiction|omega)|refine S9 ?_)
  all_goals try omega
  refine N7 (⟨k+1,I4,_,_,_⟩:CpX) (by exact⟨rfl,rfl,rfl,rfl,trivial⟩) ⟨hm.tl,((hle1.trans hleI2).trans hleI3).trans hleI4,?_,by dsimp only;omega⟩ (by dsimp only;omega)
  dsimp only
  rw[htk];exact(U8.le ((hleI2.trans hleI3).trans hleI4) _ _ hxs).snoc (A7i (hr5.le (hleI3.trans hleI4)) (V7.le (hleI3.trans hleI4) _ _ hx5) (hr6.le hleI4) (U8.le hleI4 _ _ hx6) hr7 hx7)
 ·obtain rfl:k=l.length:=by omega
  rw[A0b]at hxs;repeat' (first|refine D8 ?_|refine D5 ?_|refine O0 ?_|refine D9 ?_|refine A7 ?_|refine G7 ?_|refine G5 ?_|refine E8 ?_|refine A8 ?_|refine O7 ?_|refine H7 ?_|refine H9 ?_|(refine D6 (ht:=fun _=>?_) (hf:=fun _=>?_)<;>try first|contradiction|omega))
  all_goals try omega
  obtain⟨I3,hle3,hm3,hrow3⟩:=(hm.front 0 rfl).freeze;exact⟨I3,[],⟨rfl,a1,cp1,xs1,rfl,hrow3,U8.le hle3 _ _ hxs⟩,hm3.left (H:= [])⟩
end Go.Proofs
