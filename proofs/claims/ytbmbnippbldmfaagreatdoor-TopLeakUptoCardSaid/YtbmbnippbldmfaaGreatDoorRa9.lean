/- Own work. -/
import Derived.Test.YtbmbnippbldmfaaGreatDoorRa8
import Derived.Laws.OwnMore
import Derived.Maps.RangeRun
set_option maxHeartbeats 64000000
namespace Go.Sp
theorem C4Q (l:List Ex) (e:Ex):A1q (l++ [e])=A1q l++ [e.pl]:=by rw[B9f,A1q,A1q]
theorem C7B:∀(l r:List Stm),plL (l++r)=plL l++plL r
 | [],r=>by rw[plL];rfl
 |x::l,r=>by rw[Q8,plL,plL,C7B l r];rfl
theorem D12 (l:List Stm) (e:Stm):plL (l++ [e])=plL l++ [e.pl]:=by rw[C7B,plL,plL]
theorem Ex.pl_eq (e:Ex):e.pl=.mk e.kind e.name e.n (A1q e.args) 0 0:=by cases e;rw[Ex.pl];rfl
theorem Stm.pl_eq (x:Stm):x.pl=.mk x.kind x.name 0 x.label x.opn x.e.pl (plL x.thn) (plL x.els) 0 0:=by cases x;rw[Stm.pl];rfl
end Go.Sp
namespace Go.Fw
open Go.Sp
open Go
section
variable {P:Program}{N:Nat}{ds:List Deferred}{Q:Exit->Act->World->Prop}{l l':Log}{w w':World}{ops:Array Oper}{os:List Oper}
variable {d:Nat}{ty:TypeId}{pos:String}{af:Array Edge}{g:Option (Nat×Bool)}{t t':TypeId}{x y z:Operand}
variable {E:Ent}{I I':P8}{H H' R:List HItem}
theorem Mem.rowAddr {e:TypeId}{sz n cap:Nat}{a:Option Addr}{xs:List Value} (hm:Mem E I (.row (.slice a n cap) e sz n xs::H) w) (hn:0<n):∃b,a=some ⟨b,0,none⟩:=by
 obtain⟨b,cp,cur,hv,_⟩:=hm.openRow hn;injection hv with h1 _ _
 exact⟨b,h1⟩
theorem Mem.rowLen {e:TypeId}{sz n:Nat}{v:Value}{xs:List Value} (hm:Mem E I (.row v e sz n xs::H) w):xs.length=n *sz:=(hm.ok _ O4).1
theorem A4Q [TyOne P t] {b off n cap sz:Nat}{e:TypeId}{xs:List Value}{v:Value} (hm:Mem E I (.row (.slice (some ⟨b,0,none⟩) n cap) e sz n xs::H) w) (hw:X9 ops l ⟨some d,.load t x,ty,pos,af,g⟩=some true) (hN:Nat.blt d N=true)
  (hx:ev l x=some (.pointer (some ⟨b,off,none⟩))) (hc:xs[off]?=some v) (k:WL P N ds ops Q os ((d,v)::l) w):
  WL P N ds ops Q (⟨some d,.load t x,ty,pos,af,g⟩::os) l w:=by
 have h0:=hm.rowLen;have hlt:off<xs.length:=(A0D.1 hc).1;rcases A6I n with hn|hn
 ·subst hn;rw[A14]at h0;omega
 obtain⟨b',cp,cur,hv,hm2,hcp,hcm,hs,ht⟩:=hm.openRow hn;injection hv with h1 _ _
 injection h1 with h1
 injection h1 with h1
 subst h1;refine A1K hw hN hx (hm2.ok _ O4) ?_ k
 rw[<-ht,A2M]at hc;split at hc
 ·simpa using hc
 ·cases hc
theorem B7K {by_:Nat} [Elem P t 1 by_] {b off n cap sz:Nat}{e:TypeId}{xs:List Value}{v:Value}{dst:Option Nat} (hm:Mem E I (.row (.slice (some ⟨b,0,none⟩) n cap) e sz n xs::H) w) (hd:dst=none) (hw:X9 ops l ⟨dst,.store t x y,ty,pos,af,g⟩=some true)
  (hx:ev l x=some (.pointer (some ⟨b,off,none⟩))) (hy:ev l y=some v) (hn1:v.cells.toList= [v]) (h1:v.oneCell'=true) (ho:off<xs.length)
  (k:∀w',Mem E I (.row (.slice (some ⟨b,0,none⟩) n cap) e sz n (xs.set off v)::H) w'->WL P N ds ops Q os l w'):
  WL P N ds ops Q (⟨dst,.store t x y,ty,pos,af,g⟩::os) l w:=by
 have h0:=hm.rowLen;rcases A6I n with hn|hn
 ·subst hn;rw[A14]at h0;omega
 obtain⟨b',cp,cur,hv,hm2,hcp,hcm,hs,ht⟩:=hm.openRow hn;injection hv with e1 _ e3
 injection e1 with e1
 injection e1 with e1
 subst e1;subst e3;obtain⟨cL,rfl⟩:∃cL:List Value,cur=cL.toArray:=⟨cur.toList,by simp⟩;have hs':cL.length=cap *sz:=by simpa using hs
 have ht':cL.take (n *sz)=xs:=by simpa using ht
 have hle:n *sz<=cap *sz:=A5a _ hcp;refine P5 (i:=0) hm2 hd hw hx hy rfl hn1 (by rw[A2U];omega) h1 (fun w2 hm3=>k w2 ?_)
 have hm4:Mem E I (.obj b (.cells (cL.set off v).toArray e (0,0))::H) w2:=hm3;exact hm4.shutRow hcp hcm (by simpa using hs') (by simp only;rw[List.take_set,ht'])
end
end Go.Fw
namespace Go.Fw
open Go.Sp
theorem pmO {x y:HItem}{A B C:List HItem}:((B++(A++ []))++(x::y::C)).Perm (x::y::(C++(A++B))):=by
 rw[J4];have h1:((B++A)++(x::y::C)).Perm ((x::y::C)++(B++A)):=A1o;have h2:((x::y::C)++(B++A)).Perm ((x::y::C)++(A++B)):=(A1o (l₁:=B) (l₂:=A)).append_left _;exact h1.trans h2
end Go.Fw
namespace Go.Fw
open Go.Sp
open Go
section
variable {P:Program}{N:Nat}{ds:List Deferred}{Q:Exit->Act->World->Prop}{K:Act->World->Prop}{KV:Act->Prop}{l l':Log}{w w' w0:World}{ops:Array Oper}{os:List Oper}
variable {d:Nat}{ty:TypeId}{pos:String}{af:Array Edge}{g:Option (Nat×Bool)}{t t':TypeId}{x y z:Operand}
variable {E:Ent}{I I':P8}{H H' R G:List HItem}
class Zero1 (P:Program) (e:TypeId) (v:Value):Prop where out:(P.info? e).bind (·.zero)=some v/\v.cells= #[v]
theorem B5U {e:TypeId}{by_ n:Nat} (zv:Value) [TySlice P t e] [Elem P e 1 by_] (hz0:Zero1 P e zv) (hm:Mem E I H w) (hw:X9 ops l ⟨some d,.makeSlice t x y,ty,pos,af,g⟩=some true) (hN:Nat.blt d N=true)
  (hx:ev l x=some (.int .i64 n)) (hy:ev l y=some (.int .i64 n)) (hn:n<=1000000) (hby:Nat.ble by_ 1024=true)
  (k:∀b w',Mem E I (.row (.slice (some ⟨b,0,none⟩) n n) e 1 n (List.replicate n zv)::H) w'->WL P N ds ops Q os ((d,.slice (some ⟨b,0,none⟩) n n)::l) w'):
  WL P N ds ops Q (⟨some d,.makeSlice t x y,ty,pos,af,g⟩::os) l w:=by
 obtain⟨i,z,hi',hz,hs',hb',hzc,hpos⟩:=Elem.out (P:=P) (e:=e);obtain⟨h1,h2⟩:=hz0.out;rw[hi',A2i,hz]at h1;obtain rfl:=Z8 h1;have hby':=A4q hby;have hbn:by_ *n<=1024 *1000000:=Nat.mul_le_mul hby' hn;have hr:=run_makeSlice (P:=P) (w:=w) t e i z (TySlice.out (P:=P) (t:=t)) hi' hz .i64 .i64 n n (by omega) (by omega) (by rw[hs',A1R];omega)
  (by rw[hb'];have:((by_ *n:Nat):Int)<=281474976710656:=(by omega);simpa using this) (by omega)
 rw[hs',h2,A1R,A4e]at hr;have hmc:madeCells #[z] n=(List.replicate n z).toArray:=by
  apply B0U.1
  rw[toList_madeCells_one]
 rw[hmc]at hr;refine X6 (w':=w.alloc (.cells (List.replicate n z).toArray e (0,0))) (v:=.slice (some ⟨w.heap.size,0,none⟩) n n) rfl hw hN (fun a ha=>?_)
  (k w.heap.size _ (hm.add (Kept.alloc w _) ⟨by simp,.inr ⟨w.heap.size,n,_,rfl,H9 _,heap_alloc_new w _,H7 _,by unfold maxLen;omega,by simp,by simp⟩⟩ (fun b' hb'=>?_)))
 ·simp only[execOp,ha.ev hx,ha.ev hy]
  simp[hr]
 ·simp only[HItem.blk,Value.ownBlock,X4]at hb';omega
theorem Mem.rowCell {e:TypeId}{sz n cp b off:Nat}{xs:List Value}{v:Value} (ho:(HItem.row (.slice (some ⟨b,0,none⟩) n cp) e sz n xs).ok w) (hc:xs[off]?=some v):
  ∃c fr,w.heap[b]?=some (.cells c e fr)/\c[off]?=some v:=by
 rcases ho.2 with ⟨_,h0⟩|⟨g,cap,cur,hv,_,hg,_,_,_,ht⟩
 ·have h1:=ho.1
  subst h0;rw[A14]at h1;have:off<xs.length:=(A0D.1 hc).1;omega
 ·injection hv with e1 _ _
  injection e1 with e1
  injection e1 with e1
  subst e1;refine⟨cur,(0,0),hg,?_⟩
  rw[<-ht,A2M]at hc;split at hc
  ·simpa using hc
  ·cases hc
theorem A1G [TyOne P t] {i b off n cp sz:Nat}{e:TypeId}{xs:List Value}{v:Value} (hm:Mem E I H w) (hw:X9 ops l ⟨some d,.load t x,ty,pos,af,g⟩=some true) (hN:Nat.blt d N=true)
  (hx:ev l x=some (.pointer (some ⟨b,off,none⟩))) (hb:H[i]?=some (.row (.slice (some ⟨b,0,none⟩) n cp) e sz n xs)) (hc:xs[off]?=some v)
  (k:WL P N ds ops Q os ((d,v)::l) w):WL P N ds ops Q (⟨some d,.load t x,ty,pos,af,g⟩::os) l w:=by
 obtain⟨c,fr,h1,h2⟩:=Mem.rowCell (hm.ok _ (A03 hb)) hc;exact A1K hw hN hx h1 h2 k
theorem A5P {by_:Nat} [Elem P t 1 by_] {i b off n cap sz:Nat}{e:TypeId}{xs:List Value}{v:Value}{dst:Option Nat} (hm:Mem E I H w) (hd:dst=none) (hw:X9 ops l ⟨dst,.store t x y,ty,pos,af,g⟩=some true)
  (hx:ev l x=some (.pointer (some ⟨b,off,none⟩))) (hy:ev l y=some v) (hi:H[i]?=some (.row (.slice (some ⟨b,0,none⟩) n cap) e sz n xs)) (hn1:v.cells.toList= [v]) (h1:v.oneCell'=true) (ho:off<xs.length)
  (k:∀w',Mem E I (H.set i (.row (.slice (some ⟨b,0,none⟩) n cap) e sz n (xs.set off v))) w'->WL P N ds ops Q os l w'):
  WL P N ds ops Q (⟨dst,.store t x y,ty,pos,af,g⟩::os) l w:=by
 refine B7K (hm.front i hi) hd hw hx hy hn1 h1 ho (fun w2 hm2=>k w2 (hm2.perm ?_))
 have hlt:i<H.length:=(A0D.1 hi).1;have h:=B0D (H.set i (.row (.slice (some ⟨b,0,none⟩) n cap) e sz n (xs.set off v))) i _ (A7B hlt);rw[List.eraseIdx_set_eq]at h;exact h.symm
end
abbrev Tri (α:Type):=List α×Option Addr×Nat
abbrev Tri.nil {α:Type}:Tri α:=([],none,0)
abbrev A3U {α:Type} (t:Tri α):Value:=.slice t.2.1 t.1.length t.2.2
abbrev sl0:Value:=.slice none 0 0
theorem C3d {α β:Type}{g:α->β}{T:List α}{i:Nat}{u:α}:(T.map g).set i (g u)=(T.set i u).map g:=by rw[List.map_set]
theorem C35 {α β:Type}{g:α->β}{T:List α}{i:Nat}{t:α} (h:T[i]?=some t):(T.map g).Perm (g t::(T.eraseIdx i).map g):=by
 have h2:=(Go.Fw.B0D T i t h).map g;exact h2
theorem D5g {α β:Type}{g:α->β}{T:List α}{i:Nat}{u:α} (h:i<T.length):((T.set i u).map g).Perm (g u::(T.eraseIdx i).map g):=by
 have h2:=C35 (g:=g) (T:=T.set i u) (i:=i) (t:=u) (A7B h);rw[List.eraseIdx_set_eq]at h2;exact h2
abbrev B1E (L:List Value) (n:Nat):List Value:=L++List.replicate n sl0
theorem D1X {L:List Value}{n m:Nat}{v:Value} (hl:L.length=m):(B1E L (n+1)).set m v=B1E (L++ [v]) n:=by
 subst hl;rw[B1E,A5H,if_neg (Nat.lt_irrefl _),A4d,B0O,B0Q,B1E,J5];rfl
theorem B9J {L:List Value}{n:Nat}:B1E L (n+1)=B1E (L++ [sl0]) n:=by
 rw[B1E,B1E,B0O,J5];rfl
section
variable {P:Program}{ops:Array Oper}{md:Region.Mode}{C:World->Prop}
def uOp (P:Program) (ops:Array Oper) (i:Nat) (K:Act->World->Prop) (a:Act) (w:World):Prop:=
 match ops[i]? with
 |none=>K a w
 |some o=>if Region.wanted o (yielded ops a.tmps) then (∃u w',(execOp a.eval o).run P w=.ok (.value u) w'/\K (a.put o.dst u) w')\/
   (∃f args,(execOp a.eval o).run P w=.ok (.enter f args) w/\Calls P f args w (fun e w'=> ∃u,e=.returned u/\K (a.put o.dst u) w'))\/
   (∃w',(execOp a.eval o).run P w=.ok .skip w'/\K (a.put o.dst undef) w') else K (a.put o.dst undef) w
theorem C4i {Q:Exit->Act->World->Prop}{i:Nat}{K:Act->World->Prop}{a:Act}{w:World} (h:uOp P ops i K a w):wpOp P ops Q i K a w:=by
 unfold uOp at h
 unfold wpOp
 cases ho:ops[i]? with
 |none=>simpa[ho] using h
 |some o=>
  simp only[ho]at h |-;split
  ·rename_i hw
   rw[if_pos hw]at h
   left
   rcases h with ⟨u,w',h1,h2⟩|⟨f,args,h1,h2⟩|⟨w',h1,h2⟩
   ·unfold Oper.wp
    rw[h1,Oper.upon_value];exact h2
   ·unfold Oper.wp
    rw[h1,Oper.upon_enter];exact Calls.mono h2 (fun e w' ⟨u,he,hk⟩=>by subst he;exact hk)
   ·unfold Oper.wp
    rw[h1,Oper.upon_skip];exact h2
  ·rename_i hw
   rw[if_neg hw]at h;exact h
theorem C4b {i:Nat}{K K':Act->World->Prop}{a:Act}{w:World} (hk:∀a w,K a w->K' a w) (h:uOp P ops i K a w):uOp P ops i K' a w:=by
 unfold uOp at h |-
 cases ho:ops[i]? with
 |none=>simp only[ho]at h |-;exact hk _ _ h
 |some o=>
  simp only[ho]at h |-;split
  ·rename_i hw
   rw[if_pos hw]at h;rcases h with ⟨u,w',h1,h2⟩|⟨f,args,h1,h2⟩|⟨w',h1,h2⟩
   ·exact .inl ⟨u,w',h1,hk _ _ h2⟩
   ·exact .inr (.inl ⟨f,args,h1,Calls.mono h2 (fun e w' ⟨u,he,h⟩=>⟨u,he,hk _ _ h⟩)⟩)
   ·exact .inr (.inr ⟨w',h1,hk _ _ h2⟩)
  ·rename_i hw
   rw[if_neg hw]at h;exact hk _ _ h
theorem A3G.uOp {i:Nat}{o:Oper}{v:Value}{a:Act}{w:World} (hi:ops[i]?=some o) (hy:A3G P ops C o v a) (hC:C w) {K:Act->World->Prop} (h:K (a.put o.dst v) w):uOp P ops i K a w:=by
 unfold Fw.uOp
 simp only[hi];rcases hy with ⟨hw,hv⟩|⟨hw,rfl⟩
 ·rw[if_pos hw];exact .inl ⟨v,w,hv w hC,h⟩
 ·rw[if_neg (by rw[hw];simp)];exact h
theorem D5o {j:Nat}{oi oj:Oper}{v:Value} (hj:ops[j]?=some oj) (hap:oi.apart ops oj=true)
  (hsi:∀cs b,oi.op≠ .select cs b) (hsj:∀cs b,oj.op≠ .select cs b) {K:Act->World->Prop}{a:Act}{w:World}
  (hy:A3G P ops C oi v a) (h:uOp P ops j K (a.put oi.dst v) w):
  uOp P ops j (fun a' w'=>A3G P ops C oi v a'/\K (a'.put oi.dst v) w') a w:=by
 obtain⟨h1,h2,h3⟩:=Oper.apart_spec hap;have keep:∀(a:Act),A3G P ops C oi v a->∀u,A3G P ops C oi v (a.put oj.dst u):=fun a hy u=>by
  unfold A3G at hy |-
  rw[execOp_put oi hsi a oj.dst u h3,wanted_put oi a oj.dst u h3];exact hy
 unfold uOp at *
 simp only[hj]at *;rw[wanted_put oj a oi.dst v h1]at h;split
 ·rename_i hw
  rw[if_pos hw]at h;rcases h with ⟨u,w',hu,hn⟩|⟨f,args,hu,hn⟩|⟨w',hu,hn⟩
  ·rw[execOp_put oj hsj a oi.dst v h1]at hu
   exact .inl ⟨u,w',hu,keep a hy u,by rw[<-Act.put_comm a v u h2];exact hn⟩
  ·rw[execOp_put oj hsj a oi.dst v h1]at hu
   exact .inr (.inl ⟨f,args,hu,Calls.mono hn (fun e w' ⟨u,he,h⟩=>⟨u,he,keep a hy u,by rw[<-Act.put_comm a v u h2];exact h⟩)⟩)
  ·rw[execOp_put oj hsj a oi.dst v h1]at hu
   exact .inr (.inr ⟨w',hu,keep a hy _,by rw[<-Act.put_comm a v undef h2];exact hn⟩)
 ·rename_i hw
  rw[if_neg hw]at h;exact⟨keep a hy _,by rw[<-Act.put_comm a v undef h2];exact h⟩
def B4X (P:Program) (md:Region.Mode) (ops:Array Oper) (C:World->Prop) (n:Nat) (L:Array Bool->Act->World->Prop):Nat->Array Bool->Act->World->Prop
 |0,listed,a,w=>L listed a w
 |f+1,listed,a,w=>Region.ready md ops listed≠ []/\∀i∈Region.ready md ops listed,i<n/\uOp P ops i (fun a' w'=>C w'/\B4X P md ops C n L f (listed.setIfInBounds i true) a' w') a w
theorem C1X {n g:Nat}{L:Array Bool->Act->World->Prop}{Q':Exit->Act->World->Prop} (hL:∀listed a w,L listed a w->wpAny P md ops Q' g listed a w):
  ∀(f:Nat) (listed:Array Bool) (a:Act) (w:World),B4X P md ops C n L f listed a w->wpAny P md ops Q' (f+g) listed a w
 |0,listed,a,w,h=>by rw[V9];exact hL _ _ _ h
 |f+1,listed,a,w,h=>by
  rw[show f+1+g=(f+g)+1 by omega];exact⟨fun h0=>absurd h0 h.1,fun i hi=>C4i (C4b (fun a' w' h'=>C1X hL f _ a' w' h'.2) (h.2 i hi).2)⟩
theorem D5p {n i:Nat}{oi:Oper}{v:Value}{L:Array Bool->Act->World->Prop} (hi:ops[i]?=some oi) (hsel:∀(j:Nat) (o:Oper) cs b,ops[j]?=some o->o.op≠ .select cs b)
  (hs:Region.sinkB md ops n=true) (hc:Region.chainB md ops n=true) (hn:n<ops.size) (hin:i<n)
  (hdone:∀listed a w,L listed a w->∀j∈Region.ready md ops listed,n<=j):
  ∀(f:Nat) (listed:Array Bool) (a:Act) (w:World),C w->HeadInv md ops n listed->
   (∀j oj,ops[j]?=some oj->j≠i->listed.getD j true=false->(∀e∈oj.after,Region.binds md e=true->e.on≠i)->oi.apart ops oj=true)->
   i∈Region.ready md ops listed->A3G P ops C oi v a->
   B4X P md ops C n L f (listed.setIfInBounds i true) (a.put oi.dst v) w->B4X P md ops C n L (f+1) listed a w:=by
 intro f;induction f with
 |zero=>
  intro listed a w hC inv _ hr hy H;have hun:=(mem_ready.1 hr).1;refine⟨fun h=>(by rw[h]at hr;cases hr),fun j hj=>?_⟩
  have hjn:j<n:=by
   rcases U9 j n with h|h
   ·exact h
   ·exact absurd hj (tail_waits hs hc hn inv _ i rfl hin hun j h)
  refine⟨hjn,?_⟩
  by_cases hji:j=i
  ·subst hji;exact hy.uOp hi hC ⟨hC,H⟩
  ·have:=hdone _ _ _ H j (ready_mono hj hji)
   omega
 |succ f ih=>
  intro listed a w hC inv hfree hr hy H;have hun:=(mem_ready.1 hr).1;refine⟨fun h=>(by rw[h]at hr;cases hr),fun j hj=>?_⟩
  have hjn:j<n:=by
   rcases U9 j n with h|h
   ·exact h
   ·exact absurd hj (tail_waits hs hc hn inv _ i rfl hin hun j h)
  refine⟨hjn,?_⟩
  by_cases hji:j=i
  ·subst hji;exact hy.uOp hi hC ⟨hC,H⟩
  ·have h1:=(H.2 j (ready_mono hj hji)).2
   obtain⟨hjun,oj,hoj,hall⟩:=mem_ready.1 hj;have hnot:∀e∈oj.after,Region.binds md e=true->e.on≠i:=fun e he hb heq=>by
    have h1:=hall e he hb;rw[heq,getD_both hun]at h1;cases h1
   have h2:=D5o hoj (hfree j oj hoj hji hjun hnot) (fun cs b=>hsel i oi cs b hi) (fun cs b=>hsel j oj cs b hoj) hy h1;have hfree':∀k ok,ops[k]?=some ok->k≠i->(listed.setIfInBounds j true).getD k true=false->
     (∀e∈ok.after,Region.binds md e=true->e.on≠i)->oi.apart ops ok=true:=fun k ok hk hki hun hno=>by
    refine hfree k ok hk hki ?_ hno
    by_cases hjk:j=k
    ·subst hjk;exact hjun
    ·rw[getD_set_ne true hjk]at hun;exact hun
   refine C4b (fun a' w' h3=>⟨h3.2.1,ih (listed.setIfInBounds j true) a' w' h3.2.1 (inv.set hj hjn) hfree' (ready_mono hr (Ne.symm hji)) h3.1 ?_⟩) h2
   rw[B0L _ _ hji];exact h3.2.2
def C26 (md:Region.Mode) (ops:Array Oper) (n:Nat):List Nat->Array Bool->Bool
 | [],_=>true
 |k::ks,listed=>(Region.ready md ops listed).contains k && Region.free md ops listed k && decide (k<n) && C26 md ops n ks (listed.setIfInBounds k true)
def C27:List Nat->Array Bool->Array Bool
 | [],l=>l
 |k::ks,l=>C27 ks (l.setIfInBounds k true)
theorem B3q {n g f:Nat}{Lq:Act->World->Prop} (hsel:Region.noSelect ops=true) (hs:Region.sinkB md ops n=true) (hc:Region.chainB md ops n=true) (hn:n<ops.size):
  ∀(ks:List Nat) (l:List Oper) (listed:Array Bool) (a:Act) (w:World),C w->ks.map (ops[·]?)=l.map some->HeadInv md ops n listed->C26 md ops n ks listed=true->
  A9w P ops C (fun a'=>B4X P md ops C n (fun listed' a' w'=>Region.seqB md ops g n listed'=true/\Lq a' w') f (C27 ks listed) a' w) l a->
  B4X P md ops C n (fun listed' a' w'=>Region.seqB md ops g n listed'=true/\Lq a' w') (l.length+f) listed a w
 | [],[],listed,a,w,_,_,_,_,h=>by rw[List.length_nil,V9];exact h
 |k::ks,o::l,listed,a,w,hC,hl,inv,hB,h=>by
  simp only[U4,A4b]at hl;obtain⟨h0,hl'⟩:=hl;simp only[C26,Q3,decide_eq_true_eq]at hB;obtain⟨⟨⟨hr,hf⟩,hkn⟩,hB'⟩:=hB;have hr':k∈Region.ready md ops listed:=by simpa using hr
  obtain⟨v,hy,hK⟩:=h;rw[show (o::l).length+f=(l.length+f)+1 by simp only[E9];omega];exact D5p h0 (Region.noSelect_spec hsel) hs hc hn hkn (fun listed' a' w' hL=>seqB_ready hL.1) (l.length+f) listed a w hC inv (Region.free_spec h0 hf) hr' hy
   (B3q hsel hs hc hn ks l _ _ w hC hl' (inv.set hr' hkn) hB' hK)
 | [],_::_,_,_,_,_,hl,_,_,_=>by simp at hl
 |_::_,[],_,_,_,_,hl,_,_,_=>by simp at hl
def C40 (ops:Array Oper) (ks:List Nat) (n:Nat):Bool:=
 Region.noSelect ops && decide (n<ops.size) && Region.sinkB .any ops n && Region.chainB .any ops n && C26 .any ops n ks (Array.replicate ops.size false) && decide (ks.length<=n) && ks.all (fun k=>Nat.blt k ops.size)
theorem B8C {id:Nat}{Q:Exit->Act->World->Prop}{a:Act}{w:World}{l:List Oper} (ks:List Nat) (n:Nat) (hm:P.follows .mixedOrders=true) (hB:C40 l.toArray ks n=true)
  (hC:C { w with drawn:=w.drawn+1})
  (h:A9w P l.toArray C (fun a'=>B4X P .any l.toArray C n (fun listed' a' w'=>Region.seqB .any l.toArray (l.length-n) n listed'=true/\wpList P l.toArray Q (l.drop n) a' w') (n-ks.length) (C27 ks (Array.replicate l.length false)) a' { w with drawn:=w.drawn+1}) (A4C l ks) a):
  (Code.region id l.toArray true).wp P Q a w:=by
 simp only[C40,Q3,decide_eq_true_eq]at hB;obtain⟨⟨⟨⟨⟨⟨hsel,hn⟩,hs⟩,hc⟩,hlex⟩,hlen⟩,hks⟩:=hB;have hn':n<l.length:=by simpa using hn
 have hdl:(l.drop n).length=l.length-n:=by simp
 obtain⟨k1,k2⟩:=A54 l ks (by simpa using hks);have inv0:HeadInv .any l.toArray n (Array.replicate l.length false):=
  ⟨by simp,fun j oj _ hl=>(by rw[getD_replicate_false]at hl;cases hl),fun t _ ht=>getD_in (by simpa using ht) (getD_replicate_false _ _)⟩
 have H:=B3q (md:=.any) (g:=l.length-n) (f:=n-ks.length) hsel hs hc hn ks (A4C l ks) _ a _ hC k1 inv0 (by simpa using hlex) h;refine wp_region_any hm ?_
 have:=C1X (Q':=Q) (g:=l.length-n) (fun listed a' w' hL=>by
  have:=wpAny_of_seq (md:=.any) (Q':=Q) (l.drop n) n listed a' w' (fun j=>by simp) (by rw[hdl];exact hL.1) hL.2
  rwa [hdl]at this) _ _ _ _ H
 rw[k2,show ks.length+(n-ks.length)+(l.length-n)=l.length by omega]at this;simpa using this
end
section
variable {P:Program}{N:Nat}{ds:List Deferred}{X:List Nat}{Q:Exit->Act->World->Prop}{l:Log}{w w' w0:World}{os tail:List Oper}{ops:Array Oper}{E:Ent}{I:P8}{G R H:List HItem}{o:Oper}
structure WA (P:Program) (N:Nat) (ds:List Deferred) (ops:Array Oper) (Q:Exit->Act->World->Prop) (X:List Nat) (w0:World) (n f:Nat) (listed:Array Bool) (tail:List Oper) (l:Log) (w:World):Prop where
 run:∀a,Fits N ds l a->B4X P .any ops (fun w'=>Kept X w0 w') n (fun listed' a' w'=>Region.seqB .any ops (ops.size-n) n listed'=true/\wpList P ops Q tail a' w') f listed a w
structure WU (P:Program) (N:Nat) (ds:List Deferred) (ops:Array Oper) (Q:Exit->Act->World->Prop) (X:List Nat) (w0:World) (n f:Nat) (listed:Array Bool) (tail:List Oper) (o:Oper) (l:Log) (w:World):Prop where
 run:∀a,Fits N ds l a->∀i,ops[i]?=some o->uOp P ops i (fun a' w'=>Kept X w0 w'/\B4X P .any ops (fun w'=>Kept X w0 w') n (fun listed' a' w'=>Region.seqB .any ops (ops.size-n) n listed'=true/\wpList P ops Q tail a' w') f listed a' w') a w
theorem A2y [Mixed P] {id:Nat} (hm:Mem E I (G++R) w) (ks:List Nat) (n:Nat) (hB:C40 os.toArray ks n=true:=by kernel_rfl)
  (h:∀wd,Mem E I (G++R) wd->Mem ⟨wd,A3N G,I⟩ I G wd->WV P N ds os.toArray (A3N G) wd (fun a'=>B4X P .any os.toArray (fun w'=>Kept (A3N G) wd w') n (fun listed' a' w'=>Region.seqB .any os.toArray (os.toArray.size-n) n listed'=true/\wpList P os.toArray Q (os.drop n) a' w') (n-ks.length) (C27 ks (Array.replicate os.length false)) a' wd) (A4C os ks) l):
  WC P N ds (.region id os.toArray true) Q l w:=
 ⟨fun a ha=>B8C (C:=fun w'=>Kept (A3N G) { w with drawn:=w.drawn+1} w') ks n Mixed.out hB (Kept.refl _ _) ((h _ (hm.kept0 (Kept.drew w)) (hm.kept0 (Kept.drew w)).sub).run a ha)⟩
theorem B23 {n f:Nat}{listed:Array Bool} (h:WA P N ds ops Q X w n f listed tail l w):
  WV P N ds ops X w (fun a'=>B4X P .any ops (fun w'=>Kept X w w') n (fun listed' a' w'=>Region.seqB .any ops (ops.size-n) n listed'=true/\wpList P ops Q tail a' w') f listed a' w) [] l:=⟨fun a ha=>h.run a ha⟩
theorem A6S {n:Nat}{listed:Array Bool} (hs:Region.seqB .any ops (ops.size-n) n listed=true) (h:WL P N ds ops Q tail l w):WA P N ds ops Q X w0 n 0 listed tail l w:=⟨fun a ha=>⟨hs,h.run a ha⟩⟩
theorem A1I {n f i:Nat}{listed:Array Bool} (h:WU P N ds ops Q X w0 n f (listed.setIfInBounds i true) tail o l w) (hr:Region.ready .any ops listed= [i]) (hi:ops[i]?=some o:=by rfl) (hn:Nat.blt i n=true:=by rfl)
   :WA P N ds ops Q X w0 n (f+1) listed tail l w:=
 ⟨fun a ha=>⟨by rw[hr];simp,fun j hj=>by
  rw[hr]at hj;obtain rfl:j=i:=by simpa using hj
  exact⟨by simpa[A2U] using hn,h.run a ha j hi⟩⟩⟩
theorem B1o {n f i j:Nat}{o2:Oper}{listed:Array Bool} (h2:WU P N ds ops Q X w0 n f (listed.setIfInBounds j true) tail o2 l w) (hr:Region.ready .any ops listed= [i,j]) (hi:ops[i]?=some o:=by rfl) (hj:ops[j]?=some o2:=by rfl) (hn:Nat.blt i n=true:=by rfl) (hn2:Nat.blt j n=true:=by rfl)
  (h:WU P N ds ops Q X w0 n f (listed.setIfInBounds i true) tail o l w)  :WA P N ds ops Q X w0 n (f+1) listed tail l w:=
 ⟨fun a ha=>⟨by rw[hr];simp,fun k hk=>by
  rw[hr]at hk;rcases W9.1 hk with rfl|hk
  ·exact⟨by simpa[A2U] using hn,h.run a ha _ hi⟩
  ·obtain rfl:k=j:=by simpa using hk
   exact⟨by simpa[A2U] using hn2,h2.run a ha _ hj⟩⟩⟩
variable {d:Nat}{ty:TypeId}{pos:String}{af:Array Edge}{g:Option (Nat×Bool)}{t t':TypeId}{x y z:Operand}{n f:Nat}{listed:Array Bool}
theorem A6w {d:Nat}{v:Value} (hd:o.dst=some d) (hw:X9 ops l o=some true) (hN:Nat.blt d N=true) (hrun:∀a,Fits N ds l a->(execOp a.eval o).run P w=.ok (.value v) w') (hC:Kept X w0 w')
  (k:WA P N ds ops Q X w0 n f listed tail ((d,v)::l) w'):WU P N ds ops Q X w0 n f listed tail o l w:=
 ⟨fun a ha i hi=>by
  unfold uOp
  simp only[hi];rw[A4V ha hw];exact .inl ⟨v,w',hrun a ha,hC,by rw[hd];exact k.run _ (ha.put hN v)⟩⟩
theorem B6K (hd:o.dst=none) (hw:X9 ops l o=some true) (hrun:∀a,Fits N ds l a->(execOp a.eval o).run P w=.ok .skip w') (hC:Kept X w0 w')
  (k:WA P N ds ops Q X w0 n f listed tail l w'):WU P N ds ops Q X w0 n f listed tail o l w:=
 ⟨fun a ha i hi=>by
  unfold uOp
  simp only[hi];rw[A4V ha hw];exact .inr (.inr ⟨w',hrun a ha,hC,by rw[hd];exact k.run _ ha⟩)⟩
theorem B5k {pl:List (Nat×Nat)}{z:List Value} [hS:StructT P t pl z] {n' by_:Nat} [Elem P t n' by_] {I0:P8} (k:∀b w',Mem ⟨w0,X,I0⟩ I (.obj b (.cells z.toArray t (0,0))::H) w'->WA P N ds ops Q X w0 n f listed tail ((d,.pointer (some ⟨b,0,none⟩))::l) w') (hm:Mem ⟨w0,X,I0⟩ I H w) (hw:X9 ops l ⟨some d,.alloc t,ty,pos,af,g⟩=some true:=by rfl) (hN:Nat.blt d N=true:=by rfl)
   :
  WU P N ds ops Q X w0 n f listed tail ⟨some d,.alloc t,ty,pos,af,g⟩ l w:=by
 obtain⟨_,_,_,hz⟩:=hS.out;cases hi:P.info? t with
 |none=>simp[hi]at hz
 |some i=>
  simp only[hi,A2i]at hz;have hk:=Kept.alloc w (.cells z.toArray t (0,0));have hm':=hm.add (x:=.obj w.heap.size (.cells z.toArray t (0,0))) hk (heap_alloc_new w _) (fun b hb=>by simp only[HItem.blk,X4]at hb;omega);refine A6w (w':=w.alloc (.cells z.toArray t (0,0))) (v:=.pointer (some ⟨w.heap.size,0,none⟩)) rfl hw hN (fun a ha=>?_) hm'.kept (k _ _ hm')
  simp[execOp,Instr.alloc,newVar,newRow,newObj,zeroValue,typeInfo,hi,hz,Value.cells];rfl
structure WHold (p:Prop):Prop where
 out:p
theorem A0U (id:Nat) {dr:Bool} (h:WHold (WC P N ds (.region id ops dr) Q l w)):WC P N ds (.region id ops dr) Q l w:=h.out
theorem C1z {α:Type} (id:Nat) (L:α->Log) (J:α->World->Prop)
  (h:WC P N ds (.region id os.toArray true) (Exit.then (fun a w=> ∃x,Fits N ds (L x) a/\J x w) Q) l w) (k:∀x w,J x w->At N ds Q .normal (L x) w):WC P N ds (.region id os.toArray true) Q l w:=
 ⟨fun a ha=>wp_mono (h.run a ha) (fun e a w q=>by
  cases e<;>first|exact q|(obtain⟨x,hx,hj⟩:=q;exact(k x w hj).run a hx))⟩
theorem A04 {e:TypeId}{sz by_:Nat}{KV:Act->Prop} [TySlice P t e] [Elem P e sz by_] {a:Option Addr}{m cp:Nat}{i:Int}{xs:List Value} (k:∀b off,PtrI I b off e ((xs.drop (i.toNat *sz)).take sz)->WV P N ds ops X w KV os ((d,.pointer (some ⟨b,off,none⟩))::l)) (hw:X9 ops l ⟨some d,.indexAddr t x y,ty,pos,af,g⟩=some true:=by rfl) (hN:Nat.blt d N=true:=by rfl)
  (hx:ev l x=some (.slice a m cp):=by rfl) (hy:ev l y=some (.int .i64 i):=by rfl) (hr:RowI I e sz (.slice a m cp) m xs) (h0:0<=i:=by omega) (h1:i<m:=by omega)
   :
  WV P N ds ops X w KV (⟨some d,.indexAddr t x y,ty,pos,af,g⟩::os) l:=by
 obtain⟨b,off,rfl,hp⟩:=hr.at_ i.toNat (by omega);exact A8g hw hN hx hy h0 h1 (k b _ hp)
theorem B19 {i b n' by_:Nat} [Elem P t n' by_] {c vs:List Value}{e:TypeId}{dst:Option Nat}{I0:P8} (k:∀w',Mem ⟨w0,X,I0⟩ I (H.set i (.obj b (.cells vs.toArray e (0,0)))) w'->WA P N ds ops Q X w0 n f listed tail l w') (hm:Mem ⟨w0,X,I0⟩ I H w) (hd:dst=none:=by rfl) (hw:X9 ops l ⟨dst,.store t x y,ty,pos,af,g⟩=some true:=by rfl)
  (hx:ev l x=some (.pointer (some ⟨b,0,none⟩)):=by rfl) (hy:ev l y=some (.agg vs.toArray):=by rfl) (hb:H[i]?=some (.obj b (.cells c.toArray e (0,0))):=by first|exact gt0|exact gt1|exact gt2|exact gt3|exact gt4|exact gt5|exact gt6) (hn:vs.length=n':=by rfl) (ho:c.length=n':=by rfl)
  (h1:vs.all (·.oneCell')=true:=by rfl)
   :
  WU P N ds ops Q X w0 n f listed tail ⟨dst,.store t x y,ty,pos,af,g⟩ l w:=by
 subst hd;have hget:=hm.get hb;have h2:=A8x (P:=P) (t:=t) (off:=0) (.agg vs.toArray) hget (by simpa[Value.cells] using hn) (by simp[ho]) (by simpa[Value.cells] using h1);generalize hc':(c.toArray.toList.take 0++(Value.agg vs.toArray).cells.toList++c.toArray.toList.drop (0+n')).toArray=c' at h2;have e0:c'=vs.toArray:=by
  rw[<-hc',V9, <-ho];simp[Value.cells]
 rw[e0]at h2;have hk:Kept [b] w (w.setRow b vs.toArray):=Kept.setRow hget _;have hm':=hm.turn (h':=.obj b (.cells vs.toArray e (0,0))) hb (by simpa[HItem.blk] using hk) (by
  show (w.setRow b vs.toArray).heap[b]?=_
  rw[setRow_heap w b c.toArray _ e (0,0) hget]) (.inl rfl)
 refine B6K rfl hw (fun a ha=>?_) hm'.kept (k _ hm')
 simp only[execOp,Instr.storeAt,Instr.sureAddr,ha.ev hx,ha.ev hy,Sem.run_bind,Sem.run_pure,Result.andThen,h2]
end
theorem A9E {P:Program}{N:Nat}{ds:List Deferred}{Q:Exit->Act->World->Prop}{l:Log}{w:World} (id:Nat) {ops:Array Oper}{dr:Bool}{x y:Code}{α:Type} (L:α->Log) (J:α->World->Prop)
  (h:WHold (WC P N ds (.seq (.region id ops dr) x) (Exit.then (fun a w=> ∃x,Fits N ds (L x) a/\J x w) Q) l w))
  (k:∀x w,J x w->WC P N ds y Q (L x) w):WC P N ds (.seq (.seq (.region id ops dr) x) y) Q l w:=B1p id L J h.out k
theorem B6b {P:Program}{N:Nat}{ds:List Deferred}{Q:Exit->Act->World->Prop}{l:Log}{w:World} (id:Nat) {ops:Array Oper}{dr:Bool}{x y:Code}{α:Type} (L:α->Log) (J:α->World->Prop)
  (h:WHold (WC P N ds (.seq (.region id ops dr) x) (Exit.then (fun a w=> ∃x,Fits N ds (L x) a/\J x w) Q) l w))
  (k:∀x w,J x w->WC P N ds y Q (L x) w):WC P N ds (.seq (.seq (.region id ops dr) x) y) Q l w:=B1p id L J h.out k
section
variable {P:Program}{N:Nat}{ds:List Deferred}{X:List Nat}{Q:Exit->Act->World->Prop}{l:Log}{w w' w0:World}{os tail:List Oper}{ops:Array Oper}{E:Ent}{I I0:P8}{G R H:List HItem}{o:Oper}
variable {d:Nat}{ty:TypeId}{pos:String}{af:Array Edge}{g:Option (Nat×Bool)}{t t':TypeId}{x y z:Operand}{n f:Nat}{listed:Array Bool}
theorem D3k {d f':Nat}{fn:FuncId}{args:Array Value}{Post:Value->World->Prop} (hd:o.dst=some d) (hw:X9 ops l o=some true) (hN:Nat.blt d N=true)
  (hrun:∀a,Fits N ds l a->(execOp a.eval o).run P w=.ok (.enter fn args) w) (hc:Cal P fn args w Post)
  (k:∀v w',Post v w'->Kept X w0 w'/\WA P N ds ops Q X w0 n f' listed tail ((d,v)::l) w'):WU P N ds ops Q X w0 n f' listed tail o l w:=
 ⟨fun a ha i hi=>by
  unfold uOp
  simp only[hi];rw[A4V ha hw];refine .inr (.inl ⟨fn,args,hrun a ha,Calls.mono hc.run (fun e w' q=>?_)⟩)
  cases e with
  |returned v=>exact⟨v,rfl,(k v w' q).1,by rw[hd];exact(k v w' q).2.run _ (ha.put hN v)⟩
  |panicked c=>exact q.elim
  |outgrown=>exact q.elim⟩
theorem A4f {fn:FuncId} [Own P fn] {xs:List Operand}{tys:Array TypeId}{vs:List Value}{Post:Value->P8->List HItem->Prop} (hm:Mem ⟨w0,X,I0⟩ I G w)
  (hw:X9 ops l ⟨some d,.call ⟨.value (.func fn),xs.toArray,tys⟩,ty,pos,af,g⟩=some true) (hN:Nat.blt d N=true)
  (hx:evs l xs=some vs) (hp:G.Perm (H++R)) (hc:CalM P fn vs.toArray I H Post)
  (k:∀v I' H' w',Post v I' H'->Le I I'->Mem ⟨w0,X,I0⟩ I' (H'++R) w'->WA P N ds ops Q X w0 n f listed tail ((d,v)::l) w'):
  WU P N ds ops Q X w0 n f listed tail ⟨some d,.call ⟨.value (.func fn),xs.toArray,tys⟩,ty,pos,af,g⟩ l w:=
 D3k rfl hw hN (fun a ha=>by
  have:=ha.evs hx;simp[execOp,resolve,invoke,Act.eval,Deferred.ofValue,this,A3L]) (hc.run w (hm.perm hp).sub) (fun v w' ⟨I',H',h1,h2⟩=>
   have hm':=(hm.perm hp).back h2
   ⟨hm'.kept,k v I' H' w' h1 h2.le hm'⟩)
end
def B6i (es:A8H) (s:List UInt8) (v:Value):A8H:=match es.findIdx? (fun p=>decide (p.1=s)) with
 |some i=>es.set i (s,v)
 |none=>es++ [(s,v)]
theorem D1v {es:A8H}{s:List UInt8}{v:Value}{p:List UInt8×Value} (h:p∈B6i es s v):p∈es\/p=(s,v):=by
 rw[B6i]at h;split at h
 ·rcases List.mem_or_eq_of_mem_set h with h|h
  ·exact .inl h
  ·exact .inr h
 ·rcases Y5.1 h with h|h
  ·exact .inl h
  ·exact .inr (A0q.1 h)
theorem C8U {es:A8H}{s:List UInt8}{v:Value} (u:List UInt8):u∈(B6i es s v).map (·.1)↔u∈es.map (·.1)\/u=s:=by
 rw[B6i];cases hf:es.findIdx? (fun p=>decide (p.1=s)) with
 |some i=>
  obtain⟨hi,hs,_⟩:=A3k.1 hf;have hs':es[i].1=s:=by simpa using hs
  have:(es.set i (s,v)).map (·.1)=es.map (·.1):=by
   apply A3B
   intro j;simp only[Y6,A25];split
   ·rename_i h
    subst h;rw[F9 hi];simp[hs']
   ·rfl
  dsimp only
  rw[this];constructor
  ·exact .inl
  ·rintro(h|h)
   ·exact h
   ·subst h;rw[<-hs'];exact A4r (O1 hi)
 |none=>simp
theorem C5v {es:A8H}{s:List UInt8}{v:Value} (h:(es.map (·.1)).Nodup):((B6i es s v).map (·.1)).Nodup:=by
 rw[B6i];cases hf:es.findIdx? (fun p=>decide (p.1=s)) with
 |some i=>
  obtain⟨hi,hs,_⟩:=A3k.1 hf;have hs':es[i].1=s:=by simpa using hs
  have:(es.set i (s,v)).map (·.1)=es.map (·.1):=by
   apply A3B
   intro j;simp only[Y6,A25];split
   ·rename_i h
    subst h;rw[F9 hi];simp[hs']
   ·rfl
  dsimp only
  rw[this];exact h
 |none=>
  dsimp only
  rw[V5,A6K];refine⟨h,by simp,fun a h1 b h2=>?_⟩
  simp only[U4,A5K,A0q]at h2;subst h2;rintro rfl;obtain⟨p,hp,hps⟩:=Y7.1 h1;have:=A4m.1 hf p hp;simp[hps]at this
section
variable {P:Program}{N:Nat}{ds:List Deferred}{Q:Exit->Act->World->Prop}{l:Log}{w:World}{ops:Array Oper}{os:List Oper}
variable {d:Nat}{ty:TypeId}{pos:String}{af:Array Edge}{g:Option (Nat×Bool)}{t t':TypeId}{x y z:Operand}{E:Ent}{I:P8}{H:List HItem}
theorem B4P {dst:Option Nat} (h:WL P N ds ops Q (⟨dst,.insert t x y z,ty,pos,af,g⟩::os) l w):WL P N ds ops Q (⟨dst,.mapUpdate t x y z,ty,pos,af,g⟩::os) l w:=⟨fun a ha=>h.run a ha⟩
end
section
variable {P:Program}{N:Nat}{ds:List Deferred}{Q:Exit->Act->World->Prop}{K:Act->World->Prop}{l:Log}{w:World}{ops:Array Oper}{os:List Oper}
variable {d:Nat}{ty:TypeId}{pos:String}{af:Array Edge}{g:Option (Nat×Bool)}{t:TypeId}{x y:Operand}{E:Ent}{I:P8}{H:List HItem}
end
end Go.Fw
namespace Go.Proofs
open Go.Proofs.Tryz
open Go.Sp
open Go.Fw
abbrev D7E (e:Sp.Ex):Value->P8->List HItem->Prop:=fun v I' H'=>H'= []/\∃ea ec xs,v=.agg [nt e.kind,str e.name,nt e.n,.slice ea e.args.length ec,nt 0,nt 0].toArray/\RowI I' 109 6 (.slice ea e.args.length ec) e.args.length xs/\Z7 I' (A1q e.args) xs
theorem D3M {I:P8}{e:Sp.Ex}{ea:Option Addr}{ec:Nat}{xs:List Value} (h1:RowI I 109 6 (.slice ea e.args.length ec) e.args.length xs) (h2:Z7 I (A1q e.args) xs):
  A9g I e.pl [nt e.kind,str e.name,nt e.n,.slice ea e.args.length ec,nt 0,nt 0]:=by
 rw[Sp.Ex.pl_eq];rw[<-A8z e.args]at h1 |-;exact .of h1 h2
theorem D5u:∀(n:Nat) (e:Sp.Ex),SizeOf.sizeOf e<=n->e.small->∀(I:P8) (ea:Option Addr) (ec:Nat) (xs:List Value),RowI I 109 6 (.slice ea e.args.length ec) e.args.length xs->Z7 I e.args xs->
  CalM prog 73 #[.agg (A0E e ea ec).toArray] I [] (D7E e):=by
 intro n;induction n with
 |zero=>intro e h;cases e;simp at h
 |succ n ih=>
 intro e hsz hsm I ea ec xs hr hx;obtain⟨hal,hasm⟩:=A4u hsm;refine CalM.of fun w E hm=>enter (N:=24) func73 rfl [(0,.agg (A0E e ea ec).toArray)] A0Z rfl ?_
 repeat' (first|refine A0T (d:=1) ?_ hm;clear hm;intro b1 _ hm|refine X8 (d:=2) ?_ hm;clear hm;intro b2 _ hm|refine J6 ?_ hm|refine P5 hm (k:=?_);clear hm;intro _ hm;try simp only[G5]at hm|refine D8 ?_|refine D6 ?_|refine G6 ?_|refine D5 ?_|refine E5 ?_|refine A7 ?_|refine E8 ?_|refine A8 ?_|refine F6 ?_)
 have hm:=hm.nil 109 6;refine U3 (fun x:CpX=> [(1,ptr b1),(2,ptr b2),(3,.slice x.a x.k x.cp),(9,.slice ea e.args.length ec),(10,nt e.args.length),(11,nt x.k)])
  (fun x w'=>Mem E x.I [C0m x.k x.a x.cp x.xs,.cell b2 ex0 109,.cell b1 [nt e.kind,str e.name,nt e.n,.slice ea e.args.length ec,nt 0,nt 0] 109] w'/\Le I x.I/\Z7 x.I (A1q (e.args.take x.k)) x.xs/\x.k<=e.args.length)
  (fun x=>e.args.length-x.k) ⟨0,I,none,0,[]⟩ (by exact⟨rfl,rfl,rfl,rfl,rfl,rfl,trivial⟩) ⟨hm,Le.refl _,by dsimp only;rw[Z9,A1q];exact .nil,H9 _⟩ ?_
 clear hm;rintro⟨k,I1,a1,cp1,xs1⟩ w2 ⟨hm,hle1,hxs,hk⟩;dsimp only at hm hle1 hxs hk |-;by_cases hlt:k<e.args.length
 ·have hg:e.args[k]?=some e.args[k]:=F9 hlt
  have hme:e.args[k]∈e.args:=O1 hlt;obtain⟨ea2,ec2,xs2,hc2,hr2,hx2⟩:=(hx.get hg).out;have hsm2:=A2m hasm hg;have hsz2:=A3o hme;generalize e.args[k]=y at hg hc2 hr2 hx2 hsm2 hsz2;have hcall:=fun (I':P8) (m:Le I I')=>ih y (by omega) hsm2 I' ea2 ec2 xs2 (hr2.le m) (Z7.le m _ _ hx2)
  have htk:e.args.take (k+1)=e.args.take k++ [y]:=by rw[A2N,hg];rfl
  have hri:=hr.le hle1;repeat' (first|refine O7 ?_ (hr:=hri);intro bt ot hpt;rw[show ((k:Int).toNat *6)=k *6 from rfl,hc2]at hpt|refine F8 ?_ hm (hc:=hcall _ hle1);clear hm;rintro _ I2 _ _ ⟨rfl,ea3,ec3,xs3,rfl,hr3,hx3⟩ hle hm;have hleI2:=hle;try simp only[G5]at hm|refine Y2 (d:=5) ?_ hm;clear hm;intro b5 _ hm|refine A2P (d:=19) ?_ hm;clear hm;intro a19 cp19 _ _ hm;try simp only[G5]at hm|refine Q7 ?_ hm|refine U0 ?_ hm|refine D8 ?_|refine D6 ?_|refine J8 ?_|refine O9 ?_|refine E5 ?_|refine A7 ?_|refine D7 ?_|refine E8 ?_|refine A8 ?_|refine F6 ?_|refine G7 ?_|(refine C9 (ht:=fun _=>?_) (hf:=fun _=>?_)<;>try first|contradiction|omega))
  refine L6 (⟨k+1,I2,_,_,_⟩:CpX) (by exact⟨rfl,rfl,rfl,rfl,rfl,rfl,trivial⟩) ⟨hm.tl,hle1.trans hleI2,?_,by dsimp only;omega⟩ (by dsimp only;omega)
  dsimp only
  rw[htk,C4Q];exact(Z7.le hleI2 _ _ hxs).snoc (D3M hr3 hx3)
 ·obtain rfl:k=e.args.length:=by omega
  rw[V7]at hxs;repeat' (first|refine Q7 ?_ hm|refine P6 ?_ hm;clear hm;intro _ hm;try simp only[G5]at hm|refine P5 hm (k:=?_);clear hm;intro _ hm;try simp only[G5]at hm|refine A0a ?_ hm|refine D8 ?_|refine J8 ?_|refine D5 ?_|refine E5 ?_|refine A7 ?_|refine H6 ?_|refine G9 ?_|refine E8 ?_|refine A8 ?_|refine O8 ?_|refine J3 ?_|(refine C9 (ht:=fun _=>?_) (hf:=fun _=>?_)<;>try first|contradiction|omega))
  obtain⟨I3,hle3,hm3,hrow3⟩:=(hm.front 0 rfl).freeze;exact⟨I3,[],⟨rfl,a1,cp1,xs1,rfl,hrow3,Z7.le hle3 _ _ hxs⟩,hm3.left (H:= [])⟩
abbrev D7F (l:List Sp.Stm):Value->P8->List HItem->Prop:=fun v I' H'=>H'= []/\∃a c xs,v=.slice a l.length c/\RowI I' 111 15 (.slice a l.length c) l.length xs/\V4 I' (Sp.plL l) xs
theorem D4V {I:P8}{s:Sp.Stm}{ea a1 a2:Option Addr}{ec c1 c2:Nat}{ex xs1 xs2:List Value}
  (h2:RowI I 109 6 (.slice ea s.e.args.length ec) s.e.args.length ex) (h3:Z7 I (A1q s.e.args) ex)
  (h4:RowI I 111 15 (.slice a1 s.thn.length c1) s.thn.length xs1) (h5:V4 I (Sp.plL s.thn) xs1) (h6:RowI I 111 15 (.slice a2 s.els.length c2) s.els.length xs2) (h7:V4 I (Sp.plL s.els) xs2):
  A6n I s.pl [nt s.kind,str s.name,nt 0,nt s.label,.bool s.opn,nt s.e.kind,str s.e.name,nt s.e.n,.slice ea s.e.args.length ec,nt 0,nt 0,.slice a1 s.thn.length c1,.slice a2 s.els.length c2,nt 0,nt 0]:=by
 rw[<-A7T s.thn]at h4;rw[<-A7T s.els]at h6;have he:s.e.pl.args=A1q s.e.args:=by rw[Sp.Ex.pl_eq];rfl
 have hl:s.e.pl.args.length=s.e.args.length:=by rw[he,A8z]
 rw[<-hl]at h2;rw[<-he]at h3;rw[Sp.Stm.pl_eq];have h:=B09 (I:=I) (s:=Sp.Stm.mk s.kind s.name 0 s.label s.opn s.e.pl (Sp.plL s.thn) (Sp.plL s.els) 0 0) (ea:=ea) (ec:=ec) (a1:=a1) (c1:=c1) (a2:=a2) (c2:=c2) (ex:=ex) (xs1:=xs1) (xs2:=xs2) h2 h3 h4 h5 h6 h7;have e1:s.e.pl.kind=s.e.kind:=by rw[Sp.Ex.pl_eq];rfl
 have e2:s.e.pl.name=s.e.name:=by rw[Sp.Ex.pl_eq];rfl
 have e3:s.e.pl.n=s.e.n:=by rw[Sp.Ex.pl_eq];rfl
 have e4:s.e.pl.fr=0:=by rw[Sp.Ex.pl_eq];rfl
 have e5:s.e.pl.to=0:=by rw[Sp.Ex.pl_eq];rfl
 have hc:A2H s.kind s.name 0 s.label s.opn s.e.pl ea ec (.slice a1 (Sp.plL s.thn).length c1) (.slice a2 (Sp.plL s.els).length c2) 0 0= [nt s.kind,str s.name,nt 0,nt s.label,.bool s.opn,nt s.e.kind,str s.e.name,nt s.e.n,.slice ea s.e.args.length ec,nt 0,nt 0,.slice a1 s.thn.length c1,.slice a2 s.els.length c2,nt 0,nt 0]:=by
  unfold A2H
  rw[e1,e2,e3,e4,e5,hl,A7T,A7T]
 rw[<-hc];exact h
theorem D5r:∀(n:Nat) (l:List Sp.Stm),SizeOf.sizeOf l<=n->l.length<=64->A0j l->∀(I:P8) (a:Option Addr) (c:Nat) (xs:List Value),RowI I 111 15 (.slice a l.length c) l.length xs->V4 I l xs->
  CalM prog 42 #[.slice a l.length c] I [] (D7F l):=by
 intro n;induction n with
 |zero=>intro l h;cases l<;>simp at h
 |succ n ih=>
 intro l hsz hll hsm I a c xs hr hx;refine CalM.of fun w E hm=>enter (N:=33) func42 rfl [(0,.slice a l.length c)] A0Z rfl ?_
 repeat' (first|refine D8 ?_|refine D6 ?_|refine G6 ?_|refine E5 ?_|refine A7 ?_|refine E8 ?_|refine A8 ?_|refine F6 ?_)
 have hm:=hm.nil 111 15;refine U3 (fun x:CpX=> [(3,.slice x.a x.k x.cp),(6,.slice a l.length c),(7,nt l.length),(8,nt x.k)])
  (fun x w'=>Mem E x.I [B8k x.k x.a x.cp x.xs] w'/\Le I x.I/\V4 x.I (Sp.plL (l.take x.k)) x.xs/\x.k<=l.length)
  (fun x=>l.length-x.k) ⟨0,I,none,0,[]⟩ (by exact⟨rfl,rfl,rfl,rfl,trivial⟩) ⟨hm,Le.refl _,by dsimp only;rw[Z9,Sp.plL];exact .nil,H9 _⟩ ?_
 clear hm;rintro⟨k,I1,a1,cp1,xs1⟩ w2 ⟨hm,hle1,hxs,hk⟩;dsimp only at hm hle1 hxs hk |-;by_cases hlt:k<l.length
 ·have hg:l[k]?=some l[k]:=F9 hlt
  have hme:=A3v (O1 hlt);obtain⟨ea2,ec2,ex2,a2,c2,xs2,a3,c3,xs3,hc2,hr2,hx2,hr3,hx3,hr4,hx4⟩:=(hx.get hg).out;have hsm2:=A1W hsm hg;generalize l[k]=y at hg hc2 hr2 hx2 hr3 hx3 hr4 hx4 hsm2 hme;obtain⟨s1,s2,s3,s4,s5⟩:=A15 hsm2;obtain⟨z1,z2⟩:=A5n (s:=y);have hce:=fun (I':P8) (m:Le I I')=>D5u (SizeOf.sizeOf y.e) y.e (H7 _) s1 I' ea2 ec2 ex2 (hr2.le m) (Z7.le m _ _ hx2)
  have hct:=fun (I':P8) (m:Le I I')=>ih y.thn (by omega) s2 s3 I' a2 c2 xs2 (hr3.le m) (V4.le m _ _ hx3)
  have hcl:=fun (I':P8) (m:Le I I')=>ih y.els (by omega) s4 s5 I' a3 c3 xs3 (hr4.le m) (V4.le m _ _ hx4)
  have htk:l.take (k+1)=l.take k++ [y]:=by rw[A2N,hg];rfl
  have hri:=hr.le hle1;repeat' (first|refine A6T (id:=7) (hm.perm pm0) [([0,1,3,4],[2]),([6],[5])] 7 (h:=?_);clear hm;intro wd hR hm|refine O7 ?_ (hr:=hri);intro bt ot hpt;rw[show ((k:Int).toNat *15)=k *15 from rfl,hc2]at hpt|refine B0V (d:=16) (vs:=A0E y.e ea2 ec2) hm (by rfl) (by rfl) (by rfl) (by first|exact gt0|exact gt1|exact gt2|exact gt3|exact gt4|exact gt5|exact gt6) (by rfl) (by rfl) ?_|refine F8 (d:=17) ?_ hm (hc:=hce _ hle1);clear hm;rintro _ I2 _ _ ⟨rfl,ea3,ec3,ex3,rfl,hr5,hx5⟩ hle hm;have hleI2:=hle;try simp only[G5]at hm|refine V8 (d:=21) ?_ hm (hc:=hct _ (hle1.trans hleI2));clear hm;rintro _ I3 _ _ ⟨rfl,a4,c4,xs4,rfl,hr6,hx6⟩ hle hm;have hleI3:=hle;try simp only[G5]at hm|refine V8 (d:=24) ?_ hm (hc:=hcl _ ((hle1.trans hleI2).trans hleI3));clear hm;rintro _ I4 _ _ ⟨rfl,a5,c5,xs5,rfl,hr7,hx7⟩ hle hm;have hleI4:=hle;try simp only[G5]at hm|refine A0k ?_ hR|refine B1s ?_|refine B1r ?_|refine A0K ?_|refine C4y ?_|refine B3U ?_;replace hm:=hR.back hm;clear hR;try simp only[G5]at hm|refine Y2 (d:=5) ?_ hm;clear hm;intro b5 _ hm|refine A2P (d:=30) ?_ hm;clear hm;intro a30 cp30 _ _ hm;try simp only[G5]at hm|refine Q7 ?_ hm|refine U0 ?_ hm|refine P5 hm (k:=?_);clear hm;intro _ hm;try simp only[G5]at hm|refine A3f ?_ hm;clear hm;intro _ hm;try simp only[G5]at hm|refine D8 ?_|refine D6 ?_|refine J8 ?_|refine O9 ?_|refine D5 ?_|refine E5 ?_|refine A7 ?_|refine D7 ?_|refine E8 ?_|refine A8 ?_|refine F6 ?_|refine G7 ?_|(refine C9 (ht:=fun _=>?_) (hf:=fun _=>?_)<;>try first|contradiction|omega)|refine N8 ?_)
  refine L6 (⟨k+1,I4,_,_,_⟩:CpX) (by exact⟨rfl,rfl,rfl,rfl,trivial⟩) ⟨hm.tl,((hle1.trans hleI2).trans hleI3).trans hleI4,?_,by dsimp only;omega⟩ (by dsimp only;omega)
  dsimp only
  rw[htk,D12];exact(V4.le ((hleI2.trans hleI3).trans hleI4) _ _ hxs).snoc (D4V (hr5.le (hleI3.trans hleI4)) (Z7.le (hleI3.trans hleI4) _ _ hx5) (hr6.le hleI4) (V4.le hleI4 _ _ hx6) hr7 hx7)
 ·obtain rfl:k=l.length:=by omega
  rw[V7]at hxs;repeat' (first|refine D8 ?_|refine D6 ?_|refine J8 ?_|refine E5 ?_|refine A7 ?_|refine H6 ?_|refine G9 ?_|refine E8 ?_|refine A8 ?_|refine O8 ?_|refine J3 ?_|refine J7 ?_|(refine C9 (ht:=fun _=>?_) (hf:=fun _=>?_)<;>try first|contradiction|omega))
  obtain⟨I3,hle3,hm3,hrow3⟩:=(hm.front 0 rfl).freeze;exact⟨I3,[],⟨rfl,a1,cp1,xs1,rfl,hrow3,V4.le hle3 _ _ hxs⟩,hm3.left (H:= [])⟩
mutual
def StO (I:P8):Sp.Stm->List Value->List HItem->Prop
 | .mk k nm a lb o e thn els f t,cs,H=> ∃ea ec ex a1 c1 a2 c2 xs1 xs2 H1 H2,cs=A2H k nm a lb o e ea ec (.slice a1 thn.length c1) (.slice a2 els.length c2) f t/\
  RowI I 109 6 (.slice ea e.args.length ec) e.args.length ex/\Z7 I e.args ex/\
  H=(.row (.slice a1 thn.length c1) 111 15 thn.length xs1::H1)++(.row (.slice a2 els.length c2) 111 15 els.length xs2::H2)/\A2F I thn xs1 H1/\A2F I els xs2 H2
def A2F (I:P8):List Sp.Stm->List Value->List HItem->Prop
 | [],xs,H=>xs= []/\H= []
 |s::l,xs,H=> ∃c r H1 H2,xs=c++r/\H=H1++H2/\StO I s c H1/\A2F I l r H2
 end
def B1G (I:P8) (l:List Sp.Stm) (a:Option Addr) (c:Nat) (H:List HItem):Prop:= ∃xs Hs,H=.row (.slice a l.length c) 111 15 l.length xs::Hs/\A2F I l xs Hs
mutual
theorem StO.le {I J:P8} (m:Le I J):∀(s:Sp.Stm) (cs:List Value) (H:List HItem),StO I s cs H->StO J s cs H
 | .mk k nm a lb o e thn els f t,cs,H,h=>by
  rw[StO]at h |-;obtain⟨ea,ec,ex,a1,c1,a2,c2,xs1,xs2,H1,H2,h1,h2,h3,h4,h5,h6⟩:=h;exact⟨ea,ec,ex,a1,c1,a2,c2,xs1,xs2,H1,H2,h1,h2.le m,Z7.le m _ _ h3,h4,A2F.le m _ _ _ h5,A2F.le m _ _ _ h6⟩
theorem A2F.le {I J:P8} (m:Le I J):∀(l:List Sp.Stm) (xs:List Value) (H:List HItem),A2F I l xs H->A2F J l xs H
 | [],xs,H,h=>by rw[A2F]at h |-;exact h
 |s::l,xs,H,h=>by
  rw[A2F]at h |-;obtain⟨c,r,H1,H2,h1,h2,h3,h4⟩:=h;exact⟨c,r,H1,H2,h1,h2,StO.le m _ _ _ h3,A2F.le m _ _ _ h4⟩
 end
theorem B1G.le {I J:P8} (m:Le I J) {l:List Sp.Stm}{a:Option Addr}{c:Nat}{H:List HItem} (h:B1G I l a c H):B1G J l a c H:=by
 obtain⟨xs,Hs,h1,h2⟩:=h;exact⟨xs,Hs,h1,A2F.le m _ _ _ h2⟩
theorem StO.out {I:P8}{s:Sp.Stm}{cs:List Value}{H:List HItem} (h:StO I s cs H):∃ea ec ex a1 c1 a2 c2 H1 H2,cs=A2H s.kind s.name s.at_ s.label s.opn s.e ea ec (.slice a1 s.thn.length c1) (.slice a2 s.els.length c2) s.fr s.to/\
  RowI I 109 6 (.slice ea s.e.args.length ec) s.e.args.length ex/\Z7 I s.e.args ex/\H=H1++H2/\B1G I s.thn a1 c1 H1/\B1G I s.els a2 c2 H2:=by
 cases s with
 |mk k nm a lb o e thn els f t=>
  rw[StO]at h;obtain⟨ea,ec,ex,a1,c1,a2,c2,xs1,xs2,H1,H2,h1,h2,h3,h4,h5,h6⟩:=h;exact⟨ea,ec,ex,a1,c1,a2,c2,_,_,h1,h2,h3,h4,⟨xs1,H1,rfl,h5⟩,⟨xs2,H2,rfl,h6⟩⟩
theorem StO.of {I:P8}{k a lb f t ec c1 c2:Nat}{nm:List UInt8}{o:Bool}{e:Sp.Ex}{thn els:List Sp.Stm}{ea a1 a2:Option Addr}{ex:List Value}{H1 H2:List HItem}
  (h2:RowI I 109 6 (.slice ea e.args.length ec) e.args.length ex) (h3:Z7 I e.args ex) (h5:B1G I thn a1 c1 H1) (h6:B1G I els a2 c2 H2):
  StO I (.mk k nm a lb o e thn els f t) (A2H k nm a lb o e ea ec (.slice a1 thn.length c1) (.slice a2 els.length c2) f t) (H1++H2):=by
 obtain⟨xs1,G1,e1,g1⟩:=h5;obtain⟨xs2,G2,e2,g2⟩:=h6;rw[StO];exact⟨ea,ec,ex,a1,c1,a2,c2,xs1,xs2,G1,G2,rfl,h2,h3,by rw[e1,e2],g1,g2⟩
theorem C9x {I:P8}{s:Sp.Stm}{ea a1 a2:Option Addr}{ec c1 c2:Nat}{ex:List Value}{H1 H2:List HItem}
  (h2:RowI I 109 6 (.slice ea s.e.args.length ec) s.e.args.length ex) (h3:Z7 I s.e.args ex) (h5:B1G I s.thn a1 c1 H1) (h6:B1G I s.els a2 c2 H2):
  StO I s (A2H s.kind s.name s.at_ s.label s.opn s.e ea ec (.slice a1 s.thn.length c1) (.slice a2 s.els.length c2) s.fr s.to) (H1++H2):=by
 cases s with
 |mk k n a l o e t x f u=>exact .of h2 h3 h5 h6
theorem StO.len {I:P8}{s:Sp.Stm}{cs:List Value}{H:List HItem} (h:StO I s cs H):cs.length=15:=by
 obtain⟨_,_,_,_,_,_,_,_,_,rfl,_⟩:=h.out;rfl
theorem A2F.len {I:P8}:∀ {l:List Sp.Stm}{xs:List Value}{H:List HItem},A2F I l xs H->xs.length=l.length *15
 | [],xs,H,h=>by rw[A2F]at h;simp[h.1]
 |s::l,xs,H,h=>by
  rw[A2F]at h;obtain⟨c,r,H1,H2,rfl,_,h3,h4⟩:=h;rw[D9,h3.len,h4.len,E9,A2u];omega
theorem A2F.nil {I:P8}:A2F I [] [] []:=by rw[A2F];exact⟨rfl,rfl⟩
theorem A2F.app {I:P8}:∀ {l m:List Sp.Stm}{xs ys:List Value}{G H:List HItem},A2F I l xs G->A2F I m ys H->A2F I (l++m) (xs++ys) (G++H)
 | [],m,xs,ys,G,H,h,k=>by
  rw[A2F]at h;obtain⟨rfl,rfl⟩:=h;exact k
 |s::l,m,xs,ys,G,H,h,k=>by
  rw[A2F]at h;obtain⟨c,r,H1,H2,rfl,rfl,h3,h4⟩:=h;rw[Q8,A2F];exact⟨c,r++ys,H1,H2++H,by rw[J5],by rw[J5],h3,h4.app k⟩
theorem A2F.one {I:P8}{s:Sp.Stm}{c:List Value}{H:List HItem} (h:StO I s c H):A2F I [s] c H:=by
 rw[A2F];exact⟨c,[],H,[],by simp,by simp,h,.nil⟩
theorem A2F.part {I:P8}:∀ {l m:List Sp.Stm}{xs:List Value}{H:List HItem},A2F I (l++m) xs H->∃x1 x2 H1 H2,xs=x1++x2/\H=H1++H2/\A2F I l x1 H1/\A2F I m x2 H2
 | [],m,xs,H,h=>⟨[],xs,[],H,rfl,rfl,.nil,h⟩
 |s::l,m,xs,H,h=>by
  rw[Q8,A2F]at h;obtain⟨c,r,H1,H2,rfl,rfl,h3,h4⟩:=h;obtain⟨x1,x2,G1,G2,rfl,rfl,g3,g4⟩:=h4.part;refine⟨c++x1,x2,H1++G1,G2,by rw[J5],by rw[J5],?_,g4⟩
  rw[A2F];exact⟨c,x1,H1,G1,rfl,rfl,h3,g3⟩
mutual
theorem StO.freeze {E:Ent}{w:World}:∀(s:Sp.Stm) {I:P8}{cs:List Value}{H R:List HItem},StO I s cs H->Mem E I (H++R) w->∃J,Le I J/\Mem E J R w/\A6n J s cs
 | .mk k nm a lb o e thn els f t,I,cs,H,R,h,hm=>by
  rw[StO]at h;obtain⟨ea,ec,ex,a1,c1,a2,c2,xs1,xs2,H1,H2,rfl,h2,h3,rfl,h5,h6⟩:=h;rw[J5,Q8,Q8]at hm;obtain⟨I1,l1,m1,r1⟩:=hm.freeze;obtain⟨I2,l2,m2,r2⟩:=A2F.freeze thn (A2F.le l1 _ _ _ h5) m1;obtain⟨I3,l3,m3,r3⟩:=m2.freeze;obtain⟨I4,l4,m4,r4⟩:=A2F.freeze els (A2F.le ((l1.trans l2).trans l3) _ _ _ h6) m3;have h14:=(l2.trans l3).trans l4;exact⟨I4,l1.trans h14,m4,.of (h2.le (l1.trans h14)) (Z7.le (l1.trans h14) _ _ h3) (r1.le h14) (V4.le (l3.trans l4) _ _ r2) (r3.le l4) r4⟩
theorem A2F.freeze {E:Ent}{w:World}:∀(l:List Sp.Stm) {I:P8}{xs:List Value}{H R:List HItem},A2F I l xs H->Mem E I (H++R) w->∃J,Le I J/\Mem E J R w/\V4 J l xs
 | [],I,xs,H,R,h,hm=>by
  rw[A2F]at h;obtain⟨rfl,rfl⟩:=h;exact⟨I,Le.refl I,hm,.nil⟩
 |s::l,I,xs,H,R,h,hm=>by
  rw[A2F]at h;obtain⟨c,r,H1,H2,rfl,rfl,h3,h4⟩:=h;rw[J5]at hm;obtain⟨I1,l1,m1,r1⟩:=StO.freeze s h3 hm;obtain⟨I2,l2,m2,r2⟩:=A2F.freeze l (A2F.le l1 _ _ _ h4) m1;refine⟨I2,l1.trans l2,m2,?_⟩
  rw[V4];exact⟨c,r,rfl,A6n.le l2 _ _ r1,r2⟩
 end
theorem B1G.freeze {E:Ent}{w:World}{l:List Sp.Stm}{I:P8}{a:Option Addr}{c:Nat}{H R:List HItem} (h:B1G I l a c H) (hm:Mem E I (H++R) w):
  ∃J xs,Le I J/\Mem E J R w/\RowI J 111 15 (.slice a l.length c) l.length xs/\V4 J l xs:=by
 obtain⟨xs,Hs,rfl,hc⟩:=h;obtain⟨I1,l1,m1,r1⟩:=Mem.freeze (H:=Hs++R) hm;obtain⟨I2,l2,m2,r2⟩:=A2F.freeze l (A2F.le l1 _ _ _ hc) m1;exact⟨I2,xs,l1.trans l2,m2,r1.le l2,r2⟩
structure OwX where
 k:Nat
 I:P8
 a:Option Addr
 cp:Nat
 xs:List Value
 Hs:List HItem
abbrev D7C (l:List Sp.Stm):Value->P8->List HItem->Prop:=fun v I' H'=> ∃a c,v=.slice a l.length c/\B1G I' l a c H'
theorem C5A:∀(n:Nat) (l:List Sp.Stm),SizeOf.sizeOf l<=n->l.length<=64->A0j l->∀(I:P8) (a:Option Addr) (c:Nat) (xs:List Value),RowI I 111 15 (.slice a l.length c) l.length xs->V4 I l xs->
  CalM prog 77 #[.slice a l.length c] I [] (D7C l):=by
 intro n;induction n with
 |zero=>intro l h;cases l<;>simp at h
 |succ n ih=>
 intro l hsz hll hsm I a c xs hr hx;refine CalM.of fun w E hm=>enter (N:=30) func77 rfl [(0,.slice a l.length c)] A0Z rfl ?_
 repeat' (first|refine D8 ?_|refine D6 ?_|refine G6 ?_|refine E5 ?_|refine A7 ?_|refine E8 ?_|refine A8 ?_|refine F6 ?_)
 have hm:=hm.nil 111 15;refine U3 (fun x:OwX=> [(3,.slice x.a x.k x.cp),(6,.slice a l.length c),(7,nt l.length),(8,nt x.k)])
  (fun x w'=>Mem E x.I (B8k x.k x.a x.cp x.xs::x.Hs) w'/\Le I x.I/\A2F x.I (l.take x.k) x.xs x.Hs/\x.k<=l.length)
  (fun x=>l.length-x.k) ⟨0,I,none,0,[],[]⟩ (by exact⟨rfl,rfl,rfl,rfl,trivial⟩) ⟨hm,Le.refl _,.nil,H9 _⟩ ?_
 clear hm;rintro⟨k,I1,a1,cp1,xs1,Hs1⟩ w2 ⟨hm,hle1,hxs,hk⟩;dsimp only at hm hle1 hxs hk |-;by_cases hlt:k<l.length
 ·have hg:l[k]?=some l[k]:=F9 hlt
  have hme:=A3v (O1 hlt);obtain⟨ea2,ec2,ex2,a2,c2,xs2,a3,c3,xs3,hc2,hr2,hx2,hr3,hx3,hr4,hx4⟩:=(hx.get hg).out;have hsm2:=A1W hsm hg;generalize l[k]=y at hg hc2 hr2 hx2 hr3 hx3 hr4 hx4 hsm2 hme;obtain⟨s1,s2,s3,s4,s5⟩:=A15 hsm2;obtain⟨z1,z2⟩:=A5n (s:=y);have hce:=fun (I':P8) (m:Le I I')=>B9I (SizeOf.sizeOf y.e) y.e (H7 _) s1 I' ea2 ec2 ex2 (hr2.le m) (Z7.le m _ _ hx2)
  have hct:=fun (I':P8) (m:Le I I')=>ih y.thn (by omega) s2 s3 I' a2 c2 xs2 (hr3.le m) (V4.le m _ _ hx3)
  have hcl:=fun (I':P8) (m:Le I I')=>ih y.els (by omega) s4 s5 I' a3 c3 xs3 (hr4.le m) (V4.le m _ _ hx4)
  have htk:l.take (k+1)=l.take k++ [y]:=by rw[A2N,hg];rfl
  have hri:=hr.le hle1;repeat' (first|refine A6T (id:=5) (hm.perm pm0) [([0,1,3,4,6,7],[2]),([9],[5]),([],[8])] 10 (h:=?_);clear hm;intro wd hR hm|refine O7 ?_ (hr:=hri);intro bt ot hpt;rw[show ((k:Int).toNat *15)=k *15 from rfl,hc2]at hpt|refine V8 (d:=14) ?_ hm (hc:=hce _ hle1);clear hm;rintro _ I2 _ _ ⟨rfl,ea3,ec3,ex3,rfl,hr5,hx5⟩ hle hm;have hleI2:=hle;try simp only[G5]at hm|refine V8 (d:=17) ?_ hm (hc:=hct _ (hle1.trans hleI2));clear hm;rintro _ I3 _ _ ⟨a4,c4,rfl,ho4⟩ hle hm;have hleI3:=hle;try simp only[G5]at hm|refine V8 (d:=20) ?_ hm (hc:=hcl _ ((hle1.trans hleI2).trans hleI3));clear hm;rintro _ I4 _ _ ⟨a5,c5,rfl,ho5⟩ hle hm;have hleI4:=hle;try simp only[G5]at hm|refine B3U ?_;replace hm:=(hR.back hm).perm pmO;clear hR|refine A0k ?_ hR|refine B7N ?_ hR|refine B1s ?_|refine B1r ?_|refine A0K ?_|refine C4y ?_|refine Y2 (d:=5) ?_ hm;clear hm;intro b5 _ hm|refine A2P (d:=27) ?_ hm;clear hm;intro a27 cp27 _ _ hm;try simp only[G5]at hm|refine Q7 ?_ hm|refine U0 ?_ hm|refine P5 hm (k:=?_);clear hm;intro _ hm;try simp only[G5]at hm|refine A3f ?_ hm;clear hm;intro _ hm;try simp only[G5]at hm|refine D8 ?_|refine D6 ?_|refine J8 ?_|refine O9 ?_|refine D5 ?_|refine E5 ?_|refine A7 ?_|refine D7 ?_|refine E8 ?_|refine A8 ?_|refine F6 ?_|refine G7 ?_|(refine C9 (ht:=fun _=>?_) (hf:=fun _=>?_)<;>try first|contradiction|omega)|refine N8 ?_)
  refine L6 (⟨k+1,I4,_,_,_,_⟩:OwX) (by exact⟨rfl,rfl,rfl,rfl,trivial⟩) ⟨hm.tl,((hle1.trans hleI2).trans hleI3).trans hleI4,?_,by dsimp only;omega⟩ (by dsimp only;omega)
  dsimp only
  rw[htk];exact(A2F.le ((hleI2.trans hleI3).trans hleI4) _ _ _ hxs).app (.one (C9x (hr5.le (hleI3.trans hleI4)) (Z7.le (hleI3.trans hleI4) _ _ hx5) (ho4.le hleI4) ho5))
 ·obtain rfl:k=l.length:=by omega
  rw[V7]at hxs;repeat' (first|refine D8 ?_|refine D6 ?_|refine J8 ?_|refine E5 ?_|refine A7 ?_|refine H6 ?_|refine G9 ?_|refine E8 ?_|refine A8 ?_|refine O8 ?_|refine J3 ?_|refine J7 ?_|(refine C9 (ht:=fun _=>?_) (hf:=fun _=>?_)<;>try first|contradiction|omega))
  exact⟨I1,_,⟨a1,cp1,rfl,xs1,Hs1,rfl,hxs⟩,hm⟩
abbrev C9X (ty:TypeId) (sz n:Nat) (us:List Value):Value->P8->List HItem->Prop:=fun v _ H'=> ∃a cp,v=.slice a n cp/\H'= [.row (.slice a n cp) ty sz n us]
theorem C3l (I:P8) (a:Option Addr) (n cp:Nat) (us:List Value) (hr:RowI I 103 3 (.slice a n cp) n us) (h1:us.all (·.oneCell')=true) (hn:n<=1099511627776):
  CalM prog 43 #[.slice a n cp] I [] (C9X 103 3 n us):=by
 refine CalM.of fun w E hm=>enter (N:=8) func43 rfl [(0,.slice a n cp)] A0Z rfl ?_
 cases a with
 |none=>
  have h0:n=0:=hr.none;subst h0;have hu:us= []:=A05 (by have:=hr.len;simpa using this);subst hu;repeat' (first|refine A2k ?_|refine D8 ?_|refine D6 ?_|refine E5 ?_|refine A7 ?_|refine H8 ?_|refine E8 ?_|refine A8 ?_|refine J3 ?_|refine J7 ?_|refine H5 ?_)
  exact⟨I,_,⟨none,0,rfl,rfl⟩,hm.nil 103 3⟩
 |some ad=>
  repeat' (first|refine A2k ?_|refine A5O ?_ hm;clear hm;intro bb _ hm|refine B0d ?_ hm (hr:=hr) (h1:=h1);clear hm;intro a2 cp2 _ hm;try simp only[G5]at hm|refine D8 ?_|refine D6 ?_|refine E5 ?_|refine A7 ?_|refine E8 ?_|refine A8 ?_|refine G7 ?_|refine J3 ?_|refine J7 ?_|refine F7 ?_)
  simp only[V9]at hm |-;exact⟨I,_,⟨a2,cp2,rfl,rfl⟩,(hm.front 0 rfl).hd⟩
end Go.Proofs
