/- Own work: texts FwS3, PpA, PLex, PpB, one behind the other. -/
import Derived.Test.YtfjdfdgpkncpfaaGreatDoorQc6
set_option maxHeartbeats 64000000
namespace Go.Fw
open Go.Sp
open Go
def A3F (os:List Oper):List Nat->List Oper
 | []=> []
 |k::ks=>match os[k]? with
  |some o=>o::A3F os ks
  |none=>A3F os ks
section
variable {P:Program}{ops:Array Oper}{md:Region.Mode}{C:World->Prop}
def B2o (md:Region.Mode) (ops:Array Oper) (g n:Nat):List Nat->Array Bool->Bool
 | [],listed=>Region.seqB md ops g n listed
 |k::ks,listed=>decide (Region.ready md ops listed= [k]) && decide (k<n) && B2o md ops g n ks (listed.setIfInBounds k true)
def B1Q (md:Region.Mode) (ops:Array Oper) (g n:Nat) (js:List Nat):List Nat->Array Bool->Bool
 | [],listed=>B2o md ops g n js listed
 |k::ks,listed=>(Region.ready md ops listed).contains k && Region.free md ops listed k && decide (k<n) && B1Q md ops g n js ks (listed.setIfInBounds k true)
theorem A9B {n g:Nat}{Lq:Act->World->Prop}:∀(js:List Nat) (l:List Oper) (listed:Array Bool) (a:Act) (w:World),js.map (ops[·]?)=l.map some->
  B2o md ops g n js listed=true->A3C P ops C Lq l a w->
  A8s P md ops C n (fun listed' a' w'=>Region.seqB md ops g n listed'=true/\Lq a' w') l.length listed a w
 | [],[],listed,a,w,_,hB,h=>⟨by simpa[B2o] using hB,h⟩
 |k::js,o::l,listed,a,w,hl,hB,h=>by
  simp only[Y2,A3R]at hl;obtain⟨h0,hl'⟩:=hl;simp only[B2o,Q7,decide_eq_true_eq]at hB;obtain⟨⟨hB1,hkn⟩,hB2⟩:=hB;refine⟨fun h1=>(by rw[hB1]at h1;cases h1),fun i hi=>?_⟩
  rw[hB1]at hi;have hik:i=k:=by simpa using hi
  subst hik;refine⟨hkn,?_⟩
  have next:∀a' w',A3C P ops C Lq l a' w'->A8s P md ops C n (fun listed' a' w'=>Region.seqB md ops g n listed'=true/\Lq a' w') l.length (listed.setIfInBounds i true) a' w':=fun a' w' h'=>
   A9B js l _ a' w' hl' hB2 h'
  unfold vOp
  simp only[h0];unfold A3C at h
  split
  ·rename_i hw
   rw[if_pos hw]at h;rcases h with ⟨u,w',h1,h2,h3⟩|⟨f,args,h1,h2⟩
   ·exact .inl ⟨u,w',h1,h2,next _ _ h3⟩
   ·exact .inr ⟨f,args,h1,Calls.mono h2 (fun e w' ⟨u,he,hc,h⟩=>⟨u,he,hc,next _ _ h⟩)⟩
  ·rename_i hw
   rw[if_neg hw]at h;exact⟨h.1,next _ _ h.2⟩
 | [],_::_,_,_,_,hl,_,_=>by simp at hl
 |_::_,[],_,_,_,hl,_,_=>by simp at hl
theorem A9A {n g:Nat}{Lq:Act->World->Prop}{js:List Nat}{lt:List Oper} (hsel:Region.noSelect ops=true) (hs:Region.sinkB md ops n=true) (hc:Region.chainB md ops n=true) (hn:n<ops.size)
  (hlt:js.map (ops[·]?)=lt.map some):
  ∀(ks:List Nat) (l:List Oper) (listed:Array Bool) (a:Act) (w:World),C w->ks.map (ops[·]?)=l.map some->HeadInv md ops n listed->
  B1Q md ops g n js ks listed=true->A6k P ops C (fun a'=>A3C P ops C Lq lt a' w) l a->
  A8s P md ops C n (fun listed' a' w'=>Region.seqB md ops g n listed'=true/\Lq a' w') (l.length+lt.length) listed a w
 | [],[],listed,a,w,_,_,_,hB,h=>by
  rw[List.length_nil,Y6];exact A9B js lt listed a w hlt (by simpa[B1Q] using hB) h
 |k::ks,o::l,listed,a,w,hC,hl,inv,hB,h=>by
  simp only[Y2,A3R]at hl;obtain⟨h0,hl'⟩:=hl;simp only[B1Q,Q7,decide_eq_true_eq]at hB;obtain⟨⟨⟨hr,hf⟩,hkn⟩,hB'⟩:=hB;have hr':k∈Region.ready md ops listed:=by simpa using hr
  obtain⟨v,hy,hK⟩:=h;rw[show (o::l).length+lt.length=(l.length+lt.length)+1 by simp only[X8];omega];exact B02 h0 (Region.noSelect_spec hsel) hs hc hn hkn (fun listed' a' w' hL=>seqB_ready hL.1) (l.length+lt.length) listed a w hC inv (Region.free_spec h0 hf) hr' hy
   (A9A hsel hs hc hn hlt ks l _ _ w hC hl' (inv.set hr' hkn) hB' hK)
 | [],_::_,_,_,_,_,hl,_,_,_=>by simp at hl
 |_::_,[],_,_,_,_,hl,_,_,_=>by simp at hl
theorem A4y (os:List Oper):∀(ks:List Nat),ks.all (fun k=>Nat.blt k os.length)=true->ks.map (os.toArray[·]?)=(A3F os ks).map some/\(A3F os ks).length=ks.length
 | [],_=>⟨rfl,rfl⟩
 |k::ks,h=>by
  rw[List.all_cons,Q7]at h;have hk:k<os.length:=by simpa[A1x] using h.1
  obtain⟨h1,h2⟩:=A4y os ks h.2;have e:os[k]?=some os[k]:=G9 hk;rw[A3F,e];exact⟨by simp only[Y2];rw[h1];simp[e],by simp[h2]⟩
def B0U (ops:Array Oper) (ks js:List Nat) (n:Nat):Bool:=
 Region.noSelect ops && decide (n<ops.size) && Region.sinkB .any ops n && Region.chainB .any ops n && B1Q .any ops (ops.size-n) n js ks (Array.replicate ops.size false) && decide (ks.length+js.length=n) &&
  ks.all (fun k=>Nat.blt k ops.size) && js.all (fun k=>Nat.blt k ops.size)
theorem A8w {id:Nat}{Q:Exit->Act->World->Prop}{a:Act}{w:World}{l:List Oper} (ks js:List Nat) (n:Nat) (hm:P.follows .mixedOrders=true) (hB:B0U l.toArray ks js n=true)
  (hC:C { w with drawn:=w.drawn+1})
  (h:A6k P l.toArray C (fun a'=>A3C P l.toArray C (fun a' w'=>wpList P l.toArray Q (l.drop n) a' w') (A3F l js) a' { w with drawn:=w.drawn+1}) (A3F l ks) a):(Code.region id l.toArray true).wp P Q a w:=by
 simp only[B0U,Q7,decide_eq_true_eq]at hB;obtain⟨⟨⟨⟨⟨⟨⟨hsel,hn⟩,hs⟩,hc⟩,hlex⟩,hlen⟩,hks⟩,hjs⟩:=hB;have hn':n<l.length:=by simpa using hn
 have hdl:(l.drop n).length=l.toArray.size-n:=by simp
 obtain⟨k1,k2⟩:=A4y l ks (by simpa using hks);obtain⟨j1,j2⟩:=A4y l js (by simpa using hjs);have inv0:HeadInv .any l.toArray n (Array.replicate l.toArray.size false):=
  ⟨by simp,fun j oj _ hl=>(by rw[getD_replicate_false]at hl;cases hl),fun t _ ht=>getD_in (by simpa using ht) (getD_replicate_false _ _)⟩
 have H:=A9A (md:=.any) (g:=l.toArray.size-n) (lt:=A3F l js) hsel hs hc hn j1 ks (A3F l ks) _ a _ hC k1 inv0 hlex h;refine wp_region_any hm ?_
 have:=A7o (Q':=Q) (g:=l.toArray.size-n) (fun listed a' w' hL=>by
  have:=wpAny_of_seq (md:=.any) (Q':=Q) (l.drop n) n listed a' w' (fun j=>by simp[A1f]) (by rw[hdl];exact hL.1) hL.2
  rwa [hdl]at this) _ _ _ _ H
 rw[k2,j2,hlen,show n+(l.toArray.size-n)=l.toArray.size by omega]at this;exact this
end
section
variable {P:Program}{N:Nat}{ds:List Deferred}{X:List Nat}{Q:Exit->Act->World->Prop}{l:Log}{w:World}{os:List Oper}{E:Ent}{I:U0}{G R:List HItem}
theorem B6M [Mixed P] {id:Nat} (ks js:List Nat) (n:Nat) (X:List Nat) (hB:B0U os.toArray ks js n=true)
  (h:∀wd,Kept [] w wd->WV P N ds os.toArray X wd (fun a'=>A3C P os.toArray (fun w'=>Kept X wd w') (fun a' w'=>wpList P os.toArray Q (os.drop n) a' w') (A3F os js) a' wd) (A3F os ks) l):
  WC P N ds (.region id os.toArray true) Q l w:=
 ⟨fun a ha=>A8w (C:=fun w'=>Kept X { w with drawn:=w.drawn+1} w') ks js n Mixed.out hB (Kept.refl _ _) ((h _ (Kept.drew w)).run a ha)⟩
theorem A0K [Mixed P] {id:Nat} (hm:Mem E I (G++R) w) (ks js:List Nat) (n:Nat) (hB:B0U os.toArray ks js n=true:=by kernel_rfl)
  (h:∀wd,Mem E I (G++R) wd->Mem ⟨wd,A10 G,I⟩ I G wd->WV P N ds os.toArray (A10 G) wd (fun a'=>A3C P os.toArray (fun w'=>Kept (A10 G) wd w') (fun a' w'=>wpList P os.toArray Q (os.drop n) a' w') (A3F os js) a' wd) (A3F os ks) l):
  WC P N ds (.region id os.toArray true) Q l w:=
 B6M ks js n (A10 G) hB (fun wd hk=>h wd (hm.kept0 hk) (hm.kept0 hk).sub)
variable {d:Nat}{ty:TypeId}{pos:String}{af:Array Edge}{g:Option (Nat×Bool)}{t t':TypeId}{x y z:Operand}{ops:Array Oper}{os' tail:List Oper}{w0:World}{I1:U0}{G1 H:List HItem}
theorem A5r {f:FuncId} [Own P f] {xs:List Operand}{tys:Array TypeId}{vs:List Value}{v:Value} (k:∀w',Mem ⟨w0,A10 G,I⟩ I1 G1 w'->WS P N ds ops Q (A10 G) w0 os' tail ((d,v)::l) w') (hR:Mem E I (G++R) w0) (hm:Mem ⟨w0,A10 G,I⟩ I1 G1 w)
  (hw:O8 ops l ⟨some d,.call ⟨.value (.func f),xs.toArray,tys⟩,ty,pos,af,g⟩=some true:=by rfl) (hN:Nat.blt d N=true:=by rfl)
  (hx:evs l xs=some vs:=by rfl) (hs:∀h∈H,h∈R:=by first|exact B0Z|exact B3D|exact B3E|exact B3F|exact B3G|exact B3H|exact B3I|exact B3J|exact B3K|exact B3L) (hc:CalR P f vs.toArray I1 H v)
   :
  WS P N ds ops Q (A10 G) w0 (⟨some d,.call ⟨.value (.func f),xs.toArray,tys⟩,ty,pos,af,g⟩::os') tail l w:=
 B2E rfl hw hN (fun a ha=>by
  have:=ha.evs hx;simp[execOp,resolve,invoke,Act.eval,Deferred.ofValue,this,A2B]) (hc.run w hm.inv (fun h hh=>(by
   have hr:=hs h hh;obtain⟨i,hi⟩:=A5K.1 hr;exact(hR.right.ok h hr).kept hm.kept (fun b hb=>hR.notG hi hb)))) (fun u w' ⟨h1,h2⟩=>by subst h1;exact⟨(hm.kept0 h2).kept,k w' (hm.kept0 h2)⟩)
theorem A3T {places:List (Nat×Nat)}{zero:List Value} [StructT P t places zero] {ps:List (Nat×Operand)}{vs:List (Nat×Value)}{r:List Value}{X:List Nat}{I0:U0} (k:WS P N ds ops Q X w0 os' tail ((d,.agg r.toArray)::l) w) (hm:Mem ⟨w0,X,I0⟩ I1 G1 w)
  (hw:O8 ops l ⟨some d,.build t ps.toArray,ty,pos,af,g⟩=some true:=by rfl) (hN:Nat.blt d N=true:=by rfl)
  (hx:evp l ps=some vs:=by rfl) (hr:bld places zero vs=some r:=by rfl)  :
  WS P N ds ops Q X w0 (⟨some d,.build t ps.toArray,ty,pos,af,g⟩::os') tail l w:=
 A5z rfl hw hN (fun a ha=>by
  have e1:=ha.evp hx;obtain⟨fs,h1,h2,h3⟩:=StructT.out (P:=P) (t:=t);have h4:=run_underlying (P:=P) (w:=w) h1;have h5:=A55 (P:=P) w _ _ h2;have h6:=A7w places vs zero r hr;simp only[bind_pure_comp]at h5;simp only[A3I]at h6;cases hi:P.info? t with
  |none=>simp[hi]at h3
  |some i=>
   simp only[hi,A1S]at h3;simp[execOp,Instr.build,e1,zeroValue,typeInfo,hi,h3,h4,A70,h5,Value.cells,h6]) hm.kept k
theorem A2s {α:Type}{enc:α->List Value}{e:TypeId}{sz by_:Nat}{X:List Nat}{KV:Act->Prop}{os:List Oper} [TySlice P t e] [Elem P e sz by_] {a:Option Addr}{n cp:Nat}{i:Int}{xs:List α}{z:α} (k:∀b off,PtrI I b off e (enc z)->WV P N ds ops X w KV os ((d,.pointer (some ⟨b,off,none⟩))::l)) (hw:O8 ops l ⟨some d,.indexAddr t x y,ty,pos,af,g⟩=some true:=by rfl) (hN:Nat.blt d N=true:=by rfl)
  (hx:ev l x=some (.slice a n cp):=by rfl) (hy:ev l y=some (.int .i64 i):=by rfl) (hr:RowI I e sz (.slice a n cp) n (xs.flatMap enc)) (he:∀a,(enc a).length=sz) (h0:0<=i:=by omega) (h1:i<n:=by omega) (hz:xs[i.toNat]?=some z)
   :
  WV P N ds ops X w KV (⟨some d,.indexAddr t x y,ty,pos,af,g⟩::os) l:=by
 obtain⟨b,off,rfl,hp⟩:=hr.flat he hz (by omega);exact A4f hw hN hx hy h0 h1 (k b _ hp)
theorem A0X {n:Nat}{KV:Act->Prop} [TyAgg P t n] {b off tc:Nat}{cs:List Value} (k:WV P N ds ops (A10 G) w KV os ((d,.agg cs.toArray)::l)) (hR:Mem E I (G++R) w) (hw:O8 ops l ⟨some d,.load t x,ty,pos,af,g⟩=some true:=by rfl) (hN:Nat.blt d N=true:=by rfl)
  (hx:ev l x=some (.pointer (some ⟨b,off,none⟩)):=by rfl) (hp:PtrI I b off tc cs:=by assumption) (hc:cs.length=n:=by rfl)
   :WV P N ds ops (A10 G) w KV (⟨some d,.load t x,ty,pos,af,g⟩::os) l:=by
 obtain⟨c,fr,h1,h2⟩:=hp;exact B03 hw hN hx (hR.inv _ _ h1) (hR.notGI h1) hc h2 k
theorem A2j {pl:List (Nat×Nat)}{z:List Value} [hS:StructT P t pl z] {n by_:Nat} [Elem P t n by_] {X:List Nat}{I0:U0} (k:∀b w',Mem ⟨w0,X,I0⟩ I (.obj b (.cells z.toArray t (0,0))::H) w'->WS P N ds ops Q X w0 os' tail ((d,.pointer (some ⟨b,0,none⟩))::l) w') (hm:Mem ⟨w0,X,I0⟩ I H w) (hw:O8 ops l ⟨some d,.alloc t,ty,pos,af,g⟩=some true:=by rfl) (hN:Nat.blt d N=true:=by rfl)
   :
  WS P N ds ops Q X w0 (⟨some d,.alloc t,ty,pos,af,g⟩::os') tail l w:=by
 obtain⟨_,_,_,hz⟩:=hS.out;cases hi:P.info? t with
 |none=>simp[hi]at hz
 |some i=>
  simp only[hi,A1S]at hz;have hk:=Kept.alloc w (.cells z.toArray t (0,0));have hm':=hm.add (x:=.obj w.heap.size (.cells z.toArray t (0,0))) hk (heap_alloc_new w _) (fun b hb=>by simp only[HItem.blk,U5]at hb;omega);refine A5z (w':=w.alloc (.cells z.toArray t (0,0))) (v:=.pointer (some ⟨w.heap.size,0,none⟩)) rfl hw hN (fun a ha=>?_) hm'.kept (k _ _ hm')
  simp[execOp,Instr.alloc,newVar,newRow,newObj,zeroValue,typeInfo,hi,hz,Value.cells];rfl
end
end Go.Fw
namespace Go.Proofs
open Go.Proofs.Tryz
open Go.Sp
open Go.Fw
abbrev A4i (pb:Nat) (la:Option Addr) (lc:Nat) (T:Sp.Src) (s:Sp.St) (deep:Nat) (da:Option Addr) (dc:Nat):HItem:=
 .obj pb (.cells [.slice la T.l.length lc,nt s.i,nt T.size,.slice da s.ds.length dc,nt deep].toArray 177 (0,0))
abbrev QSt (pb:Nat) (la:Option Addr) (lc:Nat) (T:Sp.Src) (s:Sp.St) (deep:Nat) (da:Option Addr) (dc:Nat):List HItem:= [A4i pb la lc T s deep da dc,A26 s.ds da dc]
section
variable {I:U0}{pb deep lc dc:Nat}{la da:Option Addr}{T:Sp.Src}
theorem A0Z (s:Sp.St) (hr:A2e I T la lc):CalR prog 92 #[ptr pb] I [A4i pb la lc T s deep da dc] (nt (T.tok s.i).pos):=by
 refine CalR.of fun w J hm hl hH hJ=>enter (N:=28) func92 rfl [(0,ptr pb)] A0v rfl ?_
 have hp:=A5n (hH _ Y1);rw[<-hJ]at hp;replace hr:=hr.le hl;by_cases hi:s.i<T.l.length
 ·have htk:=A24 hi
  repeat' (first|refine A0h ?_ (hr:=by exact hr) (he:=by intro _;rfl) (hz:=by exact htk);intro b1 o1 hp1|refine U1 ?_ hm|refine D5 ?_|refine D9 ?_|refine A7 ?_|refine H5 ?_|refine E8 ?_|refine A8 ?_|refine H7 ?_|refine H9 ?_|refine L6 ?_|refine U4 ?_;intro _ hkq;replace hm:=hm.kept0 hkq;clear hkq|(refine D6 (ht:=fun _=>?_) (hf:=fun _=>?_)<;>try first|contradiction|omega)|refine P5 ?_|refine A0d ?_|refine A0I ?_|refine J3 ?_|refine J5 ?_|refine G6 ?_)
  exact⟨rfl,hm.kept⟩
 ·have he:T.tok s.i=⟨0,[],T.size⟩:=A4v (by omega)
  rw[he];repeat' (first|refine J4 ?_ hm|refine U1 ?_ hm|refine D8 ?_|refine D5 ?_|refine E5 ?_|refine C9 ?_|refine D9 ?_|refine A7 ?_|refine E8 ?_|refine A8 ?_|refine F9 ?_|refine H7 ?_|refine H9 ?_|refine L6 ?_|refine U4 ?_;intro _ hkq;replace hm:=hm.kept0 hkq;clear hkq|(refine D6 (ht:=fun _=>?_) (hf:=fun _=>?_)<;>try first|contradiction|omega)|refine P5 ?_|refine A0I ?_|refine J3 ?_|refine J5 ?_|refine G6 ?_)
  exact⟨rfl,hm.kept⟩
theorem A1X (s:Sp.St) (hr:A2e I T la lc):CalR prog 116 #[ptr pb] I [A4i pb la lc T s deep da dc] (str (T.tok s.i).text):=by
 refine CalR.of fun w J hm hl hH hJ=>enter (N:=24) func116 rfl [(0,ptr pb)] A0v rfl ?_
 have hp:=A5n (hH _ Y1);rw[<-hJ]at hp;replace hr:=hr.le hl;by_cases hi:s.i<T.l.length
 ·have htk:=A24 hi
  repeat' (first|refine A0h ?_ (hr:=by exact hr) (he:=by intro _;rfl) (hz:=by exact htk);intro b1 o1 hp1|refine U1 ?_ hm|refine D5 ?_|refine D9 ?_|refine A7 ?_|refine H5 ?_|refine E8 ?_|refine A8 ?_|refine H7 ?_|refine H9 ?_|refine L6 ?_|refine U4 ?_;intro _ hkq;replace hm:=hm.kept0 hkq;clear hkq|(refine D6 (ht:=fun _=>?_) (hf:=fun _=>?_)<;>try first|contradiction|omega)|refine P5 ?_|refine A0d ?_|refine A0I ?_|refine J3 ?_|refine J5 ?_|refine G6 ?_)
  exact⟨rfl,hm.kept⟩
 ·have he:T.tok s.i=⟨0,[],T.size⟩:=A4v (by omega)
  rw[he];repeat' (first|refine U1 ?_ hm|refine D5 ?_|refine D9 ?_|refine A7 ?_|refine E8 ?_|refine A8 ?_|refine F9 ?_|refine H7 ?_|refine H9 ?_|refine L6 ?_|refine U4 ?_;intro _ hkq;replace hm:=hm.kept0 hkq;clear hkq|(refine D6 (ht:=fun _=>?_) (hf:=fun _=>?_)<;>try first|contradiction|omega)|refine P5 ?_|refine A0I ?_|refine J3 ?_|refine J5 ?_|refine G6 ?_)
  exact⟨rfl,hm.kept⟩
theorem A3q (s:Sp.St) (hr:A2e I T la lc) (hT:Ok T) (hi:s.i<=T.l.length):CalR prog 168 #[ptr pb] I [A4i pb la lc T s deep da dc] (nt (T.endOf s.i)):=by
 refine CalR.of fun w J hm hl hH hJ=>enter (N:=26) func168 rfl [(0,ptr pb)] A0v rfl ?_
 have hp:=A5n (hH _ Y1);rw[<-hJ]at hp;replace hr:=hr.le hl;have h1:=hT.at_ (s.i-1);have h2:=hT.size;have h3:=hT.len;by_cases h0:s.i=0
 ·rw[h0]at hp |-
  repeat' (first|refine J4 ?_ hm|refine D8 ?_|refine D5 ?_|refine Q5 ?_|refine E5 ?_|refine C9 ?_|refine D9 ?_|refine A7 ?_|refine H5 ?_|refine E8 ?_|refine A8 ?_|refine H7 ?_|refine H9 ?_|refine F8 ?_)
  exact⟨rfl,hm.kept⟩
 ·have hlt:s.i-1<T.l.length:=by omega
  have htk:=A24 hlt;repeat' (first|refine A0r (id:=3) (hm.perm pm0) 11 12 (h:=?_);clear hm;intro wd hR hm|refine A2s ?_ (hr:=by exact hr) (he:=by intro _;rfl) (hz:=by rw[show ((s.i:Int)-1).toNat=s.i-1 by omega];exact htk);intro b1 o1 hp1|refine A1u ?_ hR|refine A0X ?_ hR|refine A2j (d:=3) ?_ hm;clear hm;intro b3 _ hm|refine A1m ?_;replace hm:=hR.back hm;clear hR;try simp only[F7]at hm|refine H8 ?_ hm|refine J4 ?_ hm|refine O4 ?_ hm;clear hm;intro _ hm;try simp only[F7]at hm|refine D8 ?_|refine D5 ?_|refine Q5 ?_|refine X9 ?_|refine E5 ?_|refine Q4 ?_|refine C9 ?_|refine D9 ?_|refine A7 ?_|refine E8 ?_|refine A8 ?_|refine F9 ?_|refine H7 ?_|refine H9 ?_|(refine D6 (ht:=fun _=>?_) (hf:=fun _=>?_)<;>try first|contradiction|omega)|refine A1V ?_|refine Z4 ?_|refine B9c ?_|refine S9 ?_|refine A08 ?_)
  refine⟨?_,hm.kept⟩
  rw[Sp.Src.endOf,if_neg h0,nt,Int.natCast_add]
end
theorem A7s (c:UInt8) (w:World):
  Cal prog 109 #[.int .u8 (c.toNat:Int)] w fun v w'=>v=.bool (A3h c)/\w'=w:=by
 refine enter (N:=21) func109 rfl [(0,.int .u8 (c.toNat:Int))] A0v rfl ?_
 repeat' (first|refine D8 ?_|refine D5 ?_|refine N9 ?_|refine J9 ?_|refine B6j ?_|refine A1J ?_|refine Q5 ?_|refine A0p ?_|(refine O5 (h1:=fun _=>?_) (h0:=fun _=>?_)<;>try first|contradiction|omega)|refine D9 ?_|refine A7 ?_|refine E8 ?_|refine A8 ?_|refine H7 ?_|refine H9 ?_)
 all_goals (refine⟨congrArg Value.bool ?_,rfl⟩;unfold A3h;rw[A2x];simp;omega)
theorem A8y (c:UInt8) (w:World):
  Cal prog 110 #[.int .u8 (c.toNat:Int)] w fun v w'=>v=.bool (A20 c)/\w'=w:=by
 refine enter (N:=9) func110 rfl [(0,.int .u8 (c.toNat:Int))] A0v rfl ?_
 repeat' (first|refine D8 ?_|refine D5 ?_|refine N9 ?_|refine J9 ?_|refine B6j ?_|refine A1J ?_|refine A0p ?_|(refine O5 (h1:=fun _=>?_) (h0:=fun _=>?_)<;>try first|contradiction|omega)|refine D9 ?_|refine A7 ?_|refine E8 ?_|refine A8 ?_|refine H7 ?_|refine H9 ?_)
 all_goals (refine⟨congrArg Value.bool ?_,rfl⟩;unfold A20;rw[A2x];simp;omega)
theorem B3V (c:UInt8) (w:World):
  Cal prog 144 #[.int .u8 (c.toNat:Int)] w fun v w'=>v=.bool (A6K c)/\w'=w:=by
 refine enter (N:=13) func144 rfl [(0,.int .u8 (c.toNat:Int))] A0v rfl ?_
 repeat' (first|refine D8 ?_|refine D5 ?_|refine N9 ?_|refine J9 ?_|refine Q5 ?_|refine A0p ?_|(refine O5 (h1:=fun _=>?_) (h0:=fun _=>?_)<;>try first|contradiction|omega)|refine D9 ?_|refine A7 ?_|refine E8 ?_|refine A8 ?_|refine H7 ?_|refine H9 ?_)
 all_goals (refine⟨congrArg Value.bool ?_,rfl⟩;unfold A6K;rw[A2x];simp;omega)
theorem B72 (c:UInt8) (w:World):
  Cal prog 147 #[.int .u8 (c.toNat:Int)] w fun v w'=>v=.bool (A7X c)/\w'=w:=by
 refine enter (N:=12) func147 rfl [(0,.int .u8 (c.toNat:Int))] A0v rfl ?_
 repeat' (first|refine D8 ?_|refine D5 ?_|refine D9 ?_|refine A7 ?_|refine E8 ?_|refine A8 ?_|refine F5 ?_)
 refine X7 (fun k=> [(0,.int .u8 (c.toNat:Int)),(4,.int .i64 ((k:Nat):Int))]) (fun k w'=>w'=w/\k<=12/\∀j,j<k->Sp.A99.getD j 0≠c) (fun k=>12-k) 0 ⟨rfl,rfl,trivial⟩ ⟨rfl,by omega,by omega⟩ ?_
 rintro k w ⟨rfl,hk,hn⟩;repeat' (first|refine D8 ?_|refine D5 ?_|refine O0 ?_|refine Q5 ?_|refine Q4 ?_|refine A03 ?_|refine D9 ?_|refine A7 ?_|refine H5 ?_|refine G7 ?_|refine D7 ?_|refine L8 ?_|refine G5 ?_|refine E8 ?_|refine A8 ?_|refine F5 ?_|refine F9 ?_|refine O7 ?_|refine H7 ?_|refine H9 ?_|(refine D6 (ht:=fun _=>?_) (hf:=fun _=>?_)<;>try first|contradiction|omega))
 ·refine⟨congrArg Value.bool (Eq.symm ?_),rfl⟩
  rename_i h1 h2
  have h3:Sp.A99.getD k 0=c:=toNat_inj h2;have h4:k<Sp.A99.length:=by simp[A99];omega
  unfold A7X
  rw[A5W];refine⟨c,?_,by simp⟩
  rw[<-h3,U2,G9 h4];exact Q8 h4
 ·rename_i h1 h2
  refine N7 (k+1) ⟨rfl,rfl,trivial⟩ ⟨rfl,by omega,fun j hj=>?_⟩ (by omega)
  by_cases hjk:j=k
  ·subst hjk;exact fun e=>h2 (by rw[<-e];rfl)
  ·exact hn j (by omega)
 ·refine⟨congrArg Value.bool (Eq.symm ?_),rfl⟩
  rename_i h1
  obtain rfl:k=12:=by omega
  unfold A7X
  rw[A5S];intro x hx;obtain⟨j,hj,rfl⟩:=List.mem_iff_getElem.1 hx;have:=hn j (by simpa[A99] using hj);rw[U2,G9 hj]at this;simpa using this
theorem B5E (c:UInt8) (w:World):
  Cal prog 145 #[.int .u8 (c.toNat:Int)] w fun v w'=>v=.bool (B0F c)/\w'=w:=by
 refine enter (N:=5) func145 rfl [(0,.int .u8 (c.toNat:Int))] A0v rfl ?_
 repeat' (first|refine D8 ?_|refine D5 ?_|refine A1a ?_|refine D9 ?_|refine A7 ?_|refine E8 ?_|refine A8 ?_|refine H7 ?_|refine H9 ?_)
 all_goals (refine⟨congrArg Value.bool ?_,rfl⟩;unfold B0F;rw[A2x];simp;omega)
theorem B5D (c:UInt8) (w:World):
  Cal prog 146 #[.int .u8 (c.toNat:Int)] w fun v w'=>v=.bool (A4h c)/\w'=w:=by
 refine enter (N:=9) func146 rfl [(0,.int .u8 (c.toNat:Int))] A0v rfl ?_
 repeat' (first|refine X6 (hc:=by exact A7s c _) (k:=?_);rintro _ _ ⟨rfl,rfl⟩|refine X6 (hc:=by exact A8y c _) (k:=?_);rintro _ _ ⟨rfl,rfl⟩|refine D8 ?_|refine D5 ?_|refine N9 ?_|refine J9 ?_|refine A0p ?_|refine A1L (h1:=fun _=>?_) (h0:=fun _=>?_)<;>fail_if_success contradiction|refine D9 ?_|refine A7 ?_|refine E8 ?_|refine A8 ?_|refine H7 ?_|refine H9 ?_)
 all_goals (refine⟨congrArg Value.bool ?_,rfl⟩;unfold A4h;simp[*])
theorem B0m (fi:FuncId) [Own prog fi] (F:UInt8->Bool) (hF:∀c w,Cal prog fi #[.int .u8 (c.toNat:Int)] w fun v w'=>v=.bool (F c)/\w'=w)
  (s:List UInt8) (hs:s≠ []) (hl:s.length<=9223372036854775807) (b:Nat) (w:World) (hb:w.heap[b]?=some (.cells (str s).cells 9 (0,0))):
  Cal prog 143 #[.func (.func fi) #[] #[],.pointer (some ⟨b,0,none⟩)] w fun v w'=>v=.int .i64 (Sp.run F s.tail:Int)/\w'=w:=by
 have hs':0<s.length:=List.length_pos_iff.2 hs;refine enter (N:=19) func143 rfl [(0,.func (.func fi) #[] #[]),(1,.pointer (some ⟨b,0,none⟩))] A1P rfl ?_
 repeat' (first|refine D5 ?_|refine D9 ?_|refine A7 ?_|refine E8 ?_|refine A8 ?_|refine F5 ?_)
 refine X7 (fun k=> [(0,.func (.func fi) #[] #[]),(1,.pointer (some ⟨b,0,none⟩)),(4,.int .i64 ((k:Nat):Int))])
  (fun k w'=>w'=w/\1<=k/\k<=s.length/\∀j,1<=j->j<k->F (s.getD j 0)=true) (fun k=>s.length-k) 1 ⟨rfl,rfl,rfl,trivial⟩ ⟨rfl,by omega,by omega,by omega⟩ ?_
 rintro k w ⟨rfl,hk0,hk,hn⟩;repeat' (first|refine A5t (hc:=by exact hF _ _) (k:=?_);rintro _ _ ⟨rfl,rfl⟩|refine D8 ?_|refine D5 ?_|refine N9 ?_|refine J9 ?_|refine O0 ?_|refine X9 ?_|refine Q4 ?_|refine A03 ?_|refine A0q (k:=?_)|refine A0p ?_|(refine O5 (h1:=fun _=>?_) (h0:=fun _=>?_)<;>try first|contradiction|omega)|refine D9 ?_|refine A7 ?_|refine G7 ?_|refine D7 ?_|refine G5 ?_|refine E8 ?_|refine A8 ?_|refine F5 ?_|refine F9 ?_|refine O7 ?_|refine H7 ?_|refine H9 ?_|refine E9 ?_|refine A04 (ht:=fun _=>?_) (hf:=fun _=>?_))
 ·rename_i h1 h2
  refine N7 (k+1) ⟨rfl,rfl,rfl,trivial⟩ ⟨rfl,by omega,by omega,fun j h3 h4=>?_⟩ (by omega)
  by_cases hjk:j=k
  ·subst hjk;exact h2
  ·exact hn j h3 (by omega)
 ·rename_i h1 h2
  refine⟨?_,rfl⟩
  rw[B6t F s k hk0 hn hk (.inr h2)]
 ·rename_i h1
  refine⟨?_,rfl⟩
  rw[B6t F s k hk0 hn hk (.inl (by omega))]
theorem B8V (s:List UInt8) (hs:s≠ []) (hl:s.length<=9223372036854775807) (w:World):
  Cal prog 115 #[str s] w fun v w'=>v=.tuple #[.int .i64 ((Sp.one s).1:Int),.int .i64 ((Sp.one s).2:Int)]/\Kept [] w w':=by
 have hs':0<s.length:=List.length_pos_iff.2 hs;refine enter (N:=32) func115 rfl [(0,str s)] A0v rfl ?_
 repeat' (first|refine B6i (k:=?_);intro b w1 hbe hb hk|refine X6 (hc:=by exact B3V _ _) (k:=?_);rintro _ _ ⟨rfl,rfl⟩|refine X6 (hc:=by exact A7s _ _) (k:=?_);rintro _ _ ⟨rfl,rfl⟩|refine X6 (hc:=by exact A8y _ _) (k:=?_);rintro _ _ ⟨rfl,rfl⟩|refine X6 (hc:=by exact B72 _ _) (k:=?_);rintro _ _ ⟨rfl,rfl⟩|refine A5t (hc:=by exact B0m _ A6K B3V s hs hl _ _ (by assumption)) (k:=?_);rintro _ _ ⟨rfl,rfl⟩|refine A5t (hc:=by exact B0m _ B0F B5E s hs hl _ _ (by assumption)) (k:=?_);rintro _ _ ⟨rfl,rfl⟩|refine A5t (hc:=by exact B0m _ A4h B5D s hs hl _ _ (by assumption)) (k:=?_);rintro _ _ ⟨rfl,rfl⟩|refine A5t (hc:=by exact B0m _ A20 A8y s hs hl _ _ (by assumption)) (k:=?_);rintro _ _ ⟨rfl,rfl⟩|refine D8 ?_|refine D5 ?_|refine Q5 ?_|refine A1z ?_|refine A03 ?_|refine A0q (k:=?_)|refine D9 ?_|refine A7 ?_|refine H5 ?_|refine D7 ?_|refine L8 ?_|refine E8 ?_|refine A8 ?_|refine F5 ?_|refine F9 ?_|refine H7 ?_|refine B6T ?_|(refine D6 (ht:=fun _=>?_) (hf:=fun _=>?_)<;>try first|contradiction|omega)|refine A04 (ht:=fun _=>?_) (hf:=fun _=>?_))
 all_goals
  refine⟨?_,hk⟩
  cases s with
  |nil=>exact absurd rfl hs
  |cons c r=>
   simp only[List.getD_cons_zero,Int.toNat_zero,List.tail_cons]at *;have e:∀m:Nat,((m:Int)=35↔m=35):=fun m=>by omega
   simp_all [Sp.one]
structure TokLoop where
 at_:Nat
 out:Value
 acc:List Sp.Tok
theorem B1r (s:List UInt8) (hl:s.length<=1099511627776) (w:World):
  Cal prog 89 #[str s] w fun v w'=>w'.ownsRow w.heap.size 81 3 v (O6 s).length ((O6 s).flatMap A2O)/\Kept [] w w':=by
 refine enter (N:=36) func89 rfl [(0,str s)] A0v rfl ?_
 repeat' (first|refine D5 ?_|refine D9 ?_|refine A7 ?_|refine E8 ?_|refine A8 ?_|refine F5 ?_)
 refine X7 (fun x:TokLoop=> [(0,str s),(3,x.out),(4,.int .i64 (x.at_:Int))])
  (fun x w'=>x.at_<=s.length/\x.acc.length<=x.at_/\x.acc++A3X s x.at_=O6 s/\w'.ownsRow w.heap.size 81 3 x.out x.acc.length (x.acc.flatMap A2O)/\Kept [] w w')
  (fun x=>s.length-x.at_) ⟨0,.slice none 0 0,[]⟩ ⟨rfl,rfl,rfl,trivial⟩ ⟨by simp,by simp,by simp[A5x],World.ownsRow_nil _ _ _ _,Kept.refl _ _⟩ ?_
 rintro⟨k,out,acc⟩ w1 ⟨hk,hacc,heq,hown,hkept⟩;dsimp only at hk hacc heq hown hkept |-;have hone:=fun h:s.drop k≠ []=>A4R _ h
 have hstep:=fun h:k<s.length=>A4e s k h
 repeat' (first|refine X6 (hc:=by exact B8V (s.drop k) (by simp;omega) (by simp;omega) _) (k:=?_);rintro _ w2 ⟨rfl,hk2⟩;have h1:=hone (by simp;omega);simp only[A06]at h1|refine A7h (hown:=by exact hk2.own hown (by simp)) (hbase:=by have:=hkept.size;have:=hk2.size;omega) (k:=?_);intro v3 w3 hown3 hk3 hb3|refine D8 ?_|refine D5 ?_|refine O0 ?_|refine A5g ?_|refine X9 ?_|refine A1r ?_|refine Q4 ?_|refine B0I ?_|refine A9r ?_|refine X4 ?_|refine D9 ?_|refine A7 ?_|refine G7 ?_|refine D7 ?_|refine G5 ?_|refine E8 ?_|refine A8 ?_|refine F5 ?_|refine F9 ?_|refine O7 ?_|refine H7 ?_|refine H9 ?_|(refine D6 (ht:=fun _=>?_) (hf:=fun _=>?_)<;>try first|contradiction|omega))
 ·rename_i h0 h2
  have hst:=hstep (by omega);rw[if_pos (by omega)]at hst;refine N7 (⟨k+(Sp.one (s.drop k)).2,v3,acc++ [⟨(Sp.one (s.drop k)).1,(s.drop k).take (Sp.one (s.drop k)).2,k⟩]⟩:TokLoop) (by exact⟨rfl,rfl,rfl,trivial⟩) ?_ ?_
  ·refine⟨by dsimp only;omega,by simp;omega,by rw[<-heq,hst];simp,?_,?_⟩
   ·have e:((k:Int)+((Sp.one (s.drop k)).2:Int)).toNat-(k:Int).toNat=(Sp.one (s.drop k)).2:=by omega
    rw[e]at hown3;simpa[A2O,A0F,Value.cells] using hown3
   ·exact(hkept.step0 hk2).step hk3 (fun x hx=> .inr (by
     cases ho:out.ownBlock with
     |none=>simp[ho]at hx
     |some g=>simp[ho]at hx;subst hx;exact(hown.lt _ ho).1))
  ·dsimp only;omega
 ·rename_i h0 h2
  have hst:=hstep (by omega);rw[if_neg (by omega),Y5]at hst;refine N7 (⟨k+(Sp.one (s.drop k)).2,out,acc⟩:TokLoop) (by exact⟨rfl,rfl,rfl,trivial⟩) ?_ ?_
  ·exact⟨by dsimp only;omega,by dsimp only;omega,by rw[<-heq,hst],hk2.own hown (by simp),hkept.step0 hk2⟩
  ·dsimp only;omega
 ·rename_i h0
  rw[A4W s k (by omega),A18]at heq;rw[<-heq];exact⟨hown,hkept⟩
theorem B8W (w:World):Cal prog 81 #[] w fun v w'=>w'.ownsRow w.heap.size 9 1 v 9 (Sp.A39.map str)/\Kept [] w w':=by
 refine enter (N:=2) func81 rfl [] B7I rfl ?_
 repeat' (first|refine A5f (by rfl) (by rfl) (by rfl) (by rfl) (by rfl) (by decide) ?_;intro b w1 hbe hb hk|refine D5 ?_|refine D9 ?_|refine A7 ?_|refine E8 ?_|refine A8 ?_|refine H7 ?_|refine H9 ?_)
 exact⟨B0L hb (by rfl) (by omega) (by decide),hk⟩
theorem B73 (s:List UInt8) (hl:s.length<=9223372036854775807) (w:World):Cal prog 82 #[str s] w fun v w'=>v=.bool (A8v s)/\w'=w:=by
 refine enter (N:=36) func82 rfl [(0,str s)] A0v rfl ?_
 repeat' (first|refine X6 (hc:=by exact A7s _ _) (k:=?_);rintro _ w ⟨rfl,rfl⟩|refine D8 ?_|refine D5 ?_|refine N9 ?_|refine J9 ?_|refine O0 ?_|refine A5g ?_|refine X9 ?_|refine Y7 ?_|refine A03 ?_|refine A0p ?_|(refine O5 (h1:=fun _=>?_) (h0:=fun _=>?_)<;>try first|contradiction|omega)|refine D9 ?_|refine A7 ?_|refine H5 ?_|refine E8 ?_|refine A8 ?_|refine F5 ?_|refine F9 ?_|refine H7 ?_|refine H9 ?_|refine F8 ?_|refine A04 (ht:=fun _=>?_) (hf:=fun _=>?_))
 ·refine⟨?_,rfl⟩;rename_i h;rw[show A8v s=false by simp[A8v];omega]
 ·refine⟨?_,rfl⟩;rename_i h h1;rw[show A8v s=false by simp[A8v];omega]
 ·refine⟨?_,rfl⟩;rename_i h h1 h2;have h2':A3h (s.getD 0 0)=false:=by simpa using h2
  rw[show A8v s=false by unfold A8v;rw[h2'];simp]
 ·rename_i h0 h1 h2
  have h2':A3h (s.getD 0 0)=true:=by simpa using h2
  refine X7 (fun k=> [(0,str s),(19,.int .i64 (s.length:Int)),(20,.int .i64 ((k:Nat):Int))]) (fun k w'=>w'=w/\k<=s.length/\∀j,j<k->A4h (s.getD j 0)=true) (fun k=>s.length-k) 0 ⟨rfl,rfl,rfl,trivial⟩ ⟨rfl,by omega,by omega⟩ ?_
  rintro k w ⟨rfl,hk,hn⟩;repeat' (first|refine X6 (hc:=by exact A7s _ _) (k:=?_);rintro _ w ⟨rfl,rfl⟩|refine X6 (hc:=by exact A8y _ _) (k:=?_);rintro _ w ⟨rfl,rfl⟩|refine D8 ?_|refine D5 ?_|refine N9 ?_|refine J9 ?_|refine O0 ?_|refine Y7 ?_|refine Q4 ?_|refine A03 ?_|refine A0p ?_|refine A1L (h1:=fun _=>?_) (h0:=fun _=>?_)<;>fail_if_success contradiction|refine D9 ?_|refine A7 ?_|refine H5 ?_|refine G7 ?_|refine D7 ?_|refine L8 ?_|refine G5 ?_|refine E8 ?_|refine A8 ?_|refine F5 ?_|refine F9 ?_|refine O7 ?_|refine H7 ?_|refine H9 ?_|refine E9 ?_|(refine D6 (ht:=fun _=>?_) (hf:=fun _=>?_)<;>try first|contradiction|omega)|refine A04 (ht:=fun _=>?_) (hf:=fun _=>?_))
  ·rename_i h3 h4 h5
   refine⟨?_,rfl⟩
   rw[B7G (k:=k) (by omega) (by simp at h4 h5;simp[A4h,h4,h5])]
  ·rename_i h3 h4 h5
   refine N7 (k+1) (by exact⟨rfl,rfl,rfl,trivial⟩) ⟨rfl,by omega,fun j hj=>?_⟩ (by omega)
   by_cases hjk:j=k
   ·subst hjk;simp at h5;simp[A4h,h5]
   ·exact hn j (by omega)
  ·rename_i h3 h4
   refine N7 (k+1) (by exact⟨rfl,rfl,rfl,trivial⟩) ⟨rfl,by omega,fun j hj=>?_⟩ (by omega)
   by_cases hjk:j=k
   ·subst hjk;simp at h4;simp[A4h,h4]
   ·exact hn j (by omega)
  ·rename_i h3
   refine⟨?_,rfl⟩
   have ha:s.all A4h=true:=(B3T _ _).2 (fun j hj=>hn j (by omega));rw[show A8v s=true by unfold A8v;rw[h2',ha];simp;omega]
theorem A61 (s:List UInt8) (hl:s.length<=9223372036854775807) (w:World):Cal prog 52 #[str s] w fun v w'=>v=.bool (Sp.name s)/\Kept [] w w':=by
 refine enter (N:=17) func52 rfl [(0,str s)] A0v rfl ?_
 repeat' (first|refine X6 (hc:=by exact B8W _) (k:=?_);rintro _ w1 ⟨hown,hk1⟩;obtain⟨g,cap,cur,rfl,hbg,hg,hcap,hcur,_⟩:=B2c hown (by decide)|refine D8 ?_|refine D5 ?_|refine G8 ?_|refine D9 ?_|refine A7 ?_|refine E8 ?_|refine A8 ?_|refine F5 ?_)
 refine X7 (fun k=> [(0,str s),(5,.slice (some ⟨g,0,none⟩) 9 cap),(6,.int .i64 9),(7,.int .i64 ((k:Nat):Int))]) (fun k w'=>w'=w1/\k<=9/\∀j,j<k->s≠Sp.A39.getD j []) (fun k=>9-k) 0 ⟨rfl,rfl,rfl,rfl,trivial⟩ ⟨rfl,by omega,by omega⟩ ?_
 rintro k w1 ⟨rfl,hk,hn⟩;have hcell:k<9->cur[0+(k:Int).toNat *1]?=some (str (Sp.A39.getD k [])):=fun h=>hcur _ _ (by
  have h9:k<Sp.A39.length:=h;simp[U2,G9 h9])
 repeat' (first|refine A0q (hc:=by exact hcell (by omega)) (k:=?_)|refine X6 (hc:=by exact B73 s hl _) (k:=?_);rintro _ w ⟨rfl,rfl⟩|refine D8 ?_|refine D5 ?_|refine O0 ?_|refine A0c ?_|refine Q4 ?_|refine U6 (k:=?_)|refine D9 ?_|refine A7 ?_|refine H5 ?_|refine G7 ?_|refine D7 ?_|refine L8 ?_|refine G5 ?_|refine E8 ?_|refine A8 ?_|refine F5 ?_|refine F9 ?_|refine O7 ?_|refine H7 ?_|refine H9 ?_|(refine D6 (ht:=fun _=>?_) (hf:=fun _=>?_)<;>try first|contradiction|omega))
 ·rename_i h0 h1
  refine⟨?_,hk1⟩
  have h9:k<Sp.A39.length:=show k<9 by omega
  have:Sp.A39.any (fun w=>decide (s=w))=true:=by
   rw[A5W];exact⟨_,Q8 h9,by rw[h1,U2,G9 h9];simp⟩
  simp only[Sp.name,this,Bool.not_true,Bool.false_and]
 ·rename_i h0 h1
  refine N7 (k+1) (by exact⟨rfl,rfl,rfl,rfl,trivial⟩) ⟨rfl,by omega,fun j hj=>?_⟩ (by omega)
  by_cases hjk:j=k
  ·subst hjk;exact h1
  ·exact hn j (by omega)
 ·rename_i h0
  refine⟨?_,hk1⟩
  have:Sp.A39.any (fun w=>decide (s=w))=false:=by
   rw[A5S];intro x hx;obtain⟨j,hj,rfl⟩:=List.mem_iff_getElem.1 hx;have:=hn j (by have:j<9:=hj;omega);rw[U2,G9 hj]at this;simpa using this
  simp only[Sp.name,this,Bool.not_false,Bool.true_and]
structure CLoop where
 at_:Nat
 out:Value
 acc:List Nat
theorem B70 (s:List UInt8) (hl:s.length<=1099511627776) (w:World):
  Cal prog 62 #[str s] w fun v w'=>w'.ownsRow w.heap.size 3 1 v (U9 s).length ((U9 s).flatMap A2N)/\Kept [] w w':=by
 refine enter (N:=53) func62 rfl [(0,str s)] A0v rfl ?_
 repeat' (first|refine X6 (hc:=by exact B1r s hl _) (k:=?_);rintro tv w1 ⟨htv,hk1⟩;obtain⟨ta,tc,rfl⟩:=A4r htv|refine D8 ?_|refine D5 ?_|refine G8 ?_|refine D9 ?_|refine A7 ?_|refine E8 ?_|refine A8 ?_|refine F5 ?_)
 have htl:=A5y s;refine X7 (fun x:CLoop=> [(0,str s),(3,x.out),(8,.slice ta (O6 s).length tc),(9,.int .i64 ((O6 s).length:Int)),(10,.int .i64 (x.at_:Int))])
  (fun x w'=>x.at_<=(O6 s).length/\x.acc.length<=x.at_/\x.acc=((O6 s).take x.at_).foldl (A01 s) []/\w'.ownsRow w1.heap.size 3 1 x.out x.acc.length (x.acc.flatMap A2N)/\Kept [] w1 w')
  (fun x=>(O6 s).length-x.at_) ⟨0,.slice none 0 0,[]⟩ ⟨rfl,rfl,rfl,rfl,rfl,trivial⟩ ⟨by simp,by simp,by simp,World.ownsRow_nil _ _ _ _,Kept.refl _ _⟩ ?_
 rintro⟨k,out,acc⟩ w2 ⟨hk,hacc,heq,hown,hkept⟩;dsimp only at hk hacc heq hown hkept |-;by_cases hlt:k<(O6 s).length
 ·obtain⟨g,cap,cur,htve,hbg,hg,hcap,hcur,hsz⟩:=B2c htv (by omega)
  injection htve with e1 e2 e3
  subst e1;have hg2:=hkept.get0 hg;have htok:(O6 s)[k]?=some (O6 s)[k]:=G9 hlt;have hok:=A2l s _ (Q8 hlt);have hfold:=B4L (A01 s) [] _ _ _ htok;have hcell:∀(j:Nat) (v:Value),(A2O (O6 s)[k])[j]?=some v->cur[0+(k:Int).toNat *3+j]?=some v:=fun j v hv=>by
   rw[show 0+(k:Int).toNat *3+j=k *3+j by omega];exact hcur _ _ (B2O _ _ _ htok j v hv)
  generalize (O6 s)[k]=t at htok hok hfold hcell;have hp1:=hok.pos;obtain⟨oa,oc,rfl⟩:=A4r hown;repeat' (first|refine A84 (vs:=A2O t) (hb:=hg2) (hc:=hcell) (k:=?_)|refine B6l (k:=?_);intro b w3 hbe hb hkb|refine A7h (hown:=by exact hkb.own hown (by simp)) (hbase:=by have:=hkept.size;have:=hkb.size;omega) (k:=?_);intro v3 w4 hown3 hk3 hb3|refine D8 ?_|refine D5 ?_|refine N9 ?_|refine J9 ?_|refine O0 ?_|refine Q5 ?_|refine A0c ?_|refine G8 ?_|refine Q4 ?_|refine A5h ?_|refine A03 ?_|refine C9 ?_|refine U6 (k:=?_)|refine A0q (k:=?_)|refine A0p ?_|(refine O5 (h1:=fun _=>?_) (h0:=fun _=>?_)<;>try first|contradiction|omega)|refine D9 ?_|refine A7 ?_|refine D7 ?_|refine E8 ?_|refine A8 ?_|refine F5 ?_|refine F9 ?_|refine F8 ?_|(refine D6 (ht:=fun _=>?_) (hf:=fun _=>?_)<;>try first|contradiction|omega))
  all_goals
   have e10:((t.pos:Int)-1).toNat=t.pos-1:=by omega
   rw[<-heq]at hfold
  all_goals first
   |(have hst:A28 s t=true\/acc= []:=by
      simp only[A28,Q7,Bool.or_eq_true,decide_eq_true_eq, <-e10];simp only[Sp.wFn,B6K];first
       |exact .inr (A1Y (by omega))
       |exact .inl ⟨⟨by omega,.inl (by assumption)⟩,by omega⟩
       |exact .inl ⟨⟨by omega,.inr (by assumption)⟩,by omega⟩
     rw[A01,if_pos hst]at hfold;refine N7 (⟨k+1,v3,acc++ [t.pos]⟩:CLoop) (by exact⟨rfl,rfl,rfl,rfl,rfl,trivial⟩) ?_ (by dsimp only;omega)
     refine⟨by dsimp only;omega,by simp;omega,hfold.symm,?_,?_⟩
     ·simpa[A2N,A0F,Value.cells,A2O] using hown3
     ·exact(hkept.step0 hkb).step hk3 (fun x hx=> .inr (by
      cases oa with
      |none=>simp[Value.ownBlock]at hx
      |some a=>simp[Value.ownBlock]at hx;subst hx;exact(hown.lt _ rfl).1)))
   |(have hst:¬(A28 s t=true\/acc= []):=by
      rintro(h|h)
      ·simp only[A28,Q7,Bool.or_eq_true,decide_eq_true_eq, <-e10]at h
       simp only[Sp.wFn,B6K]at h;obtain⟨⟨h1,h2⟩,h3⟩:=h;rcases h2 with h2|h2<;>first|omega|exact absurd h2 (by assumption)
      ·have h0:acc.length=0:=by rw[h];rfl
       omega
     rw[A01,if_neg hst]at hfold;refine N7 (⟨k+1,.slice oa acc.length oc,acc⟩:CLoop) (by exact⟨rfl,rfl,rfl,rfl,rfl,trivial⟩) ?_ (by dsimp only;omega)
     exact⟨by dsimp only;omega,by dsimp only;omega,hfold.symm,hkb.own hown (by simp),hkept.step0 hkb⟩)
 ·have hkk:k=(O6 s).length:=by omega
  have hcs:U9 s=acc:=by rw[heq,hkk,A0b];rfl
  repeat' (first|refine D8 ?_|refine D5 ?_|refine O0 ?_|refine D9 ?_|refine A7 ?_|refine G7 ?_|refine G5 ?_|refine E8 ?_|refine A8 ?_|refine O7 ?_|refine H7 ?_|refine H9 ?_|(refine D6 (ht:=fun _=>?_) (hf:=fun _=>?_)<;>try first|contradiction|omega))
  rw[hcs];exact⟨A4s hown hk1.size,hk1.trans hkept⟩
abbrev ToQ (pb:Nat) (la:Option Addr) (lc:Nat) (T:Sp.Src) (deep:Nat) (I:U0) (s:Sp.St) (val:Value):Value->U0->List HItem->Prop:=
 fun v I' H'=>v=val/\I=I'/\∃da dc,H'=QSt pb la lc T s deep da dc
theorem B1e (pb:Nat) (la:Option Addr) (lc:Nat) (T:Sp.Src) (s:Sp.St) (g:Sp.Dg) (deep:Nat) (da:Option Addr) (dc:Nat):
  [.obj pb (.cells [.slice la T.l.length lc,nt s.i,nt T.size,.slice da (s.ds.length+1) dc,nt deep].toArray 177 (0,0)),.row (.slice da (s.ds.length+1) dc) 92 4 (s.ds.length+1) (s.ds.flatMap A32++A32 g)]=QSt pb la lc T ⟨s.i,s.ds++ [g]⟩ deep da dc:=by
 simp[A0F]
section
variable {I:U0}{pb deep lc dc:Nat}{la da:Option Addr}{T:Sp.Src}
theorem A0U (s:Sp.St) (t:List UInt8) (_ht:t≠ []) (hr:A2e I T la lc) (hT:Ok T) (hi:s.i<=T.l.length):
  CalM prog 90 #[ptr pb,str t] I (QSt pb la lc T s deep da dc) (ToQ pb la lc T deep I (if T.is s.i t=true then s.next else s) (.bool (T.is s.i t))):=by
 refine CalM.of fun w E hm=>enter (N:=28) func90 rfl [(0,ptr pb),(1,str t)] A1P rfl ?_
 have h2:=hT.size;have h3:=hT.len;by_cases hq:T.is s.i t=true
 ·have hlt:=Sp.is_lt hq
  have hte:(T.tok s.i).text=t:=by simp only[Sp.Src.is,Q7,decide_eq_true_eq]at hq;exact hq.2
  rw[if_pos hq,hq];have hpk:=A1X (pb:=pb) (deep:=deep) (da:=da) (dc:=dc) s hr;rw[hte]at hpk;repeat' (first|refine Y0 ?_ hm (hc:=hpk)|refine H8 ?_ hm|refine J8 ?_ hm|refine J6 hm (k:=?_);clear hm;intro _ hm;try simp only[F7]at hm|refine D8 ?_|refine D5 ?_|refine E5 ?_|refine Q4 ?_|refine C9 ?_|refine D9 ?_|refine A7 ?_|refine E8 ?_|refine A8 ?_|refine F9 ?_|refine H7 ?_|refine H9 ?_|refine L6 ?_|refine U4 ?_;intro _ hkq;replace hm:=hm.kept0 hkq;clear hkq|(refine D6 (ht:=fun _=>?_) (hf:=fun _=>?_)<;>try first|contradiction|omega)|refine P5 ?_|refine V9 ?_|refine A44 ?_|refine X5 ?_|refine J3 ?_|refine J5 ?_|refine G6 ?_|(refine O3 (fun _=>?_) (h1:=fun _=>?_)<;>try first|contradiction|omega))
  all_goals try (exfalso;first|omega|simp_all;done)
  exact⟨I,_,⟨rfl,rfl,da,dc,rfl⟩,hm⟩
 ·rw[if_neg hq,show T.is s.i t=false by simpa using hq]
  by_cases hlt:s.i<T.l.length
  ·have hte:(T.tok s.i).text≠t:=by
    intro e;exact hq (by simp[Sp.Src.is,hlt,e])
   repeat' (first|refine Y0 ?_ hm (hc:=A1X s hr)|refine D5 ?_|refine D9 ?_|refine A7 ?_|refine H5 ?_|refine E8 ?_|refine A8 ?_|refine H7 ?_|refine H9 ?_|refine L6 ?_|refine U4 ?_;intro _ hkq;replace hm:=hm.kept0 hkq;clear hkq|refine F8 ?_|refine P5 ?_|refine P7 ?_|refine X5 ?_|refine A05 ?_|(refine O3 (fun _=>?_) (h1:=fun _=>?_)<;>try first|contradiction|omega))
   all_goals try (exfalso;first|omega|simp_all;done)
   all_goals exact⟨I,_,⟨rfl,rfl,da,dc,rfl⟩,hm⟩
  ·have hei:s.i=T.l.length:=by omega
   repeat' (first|refine Y0 ?_ hm (hc:=A1X s hr)|refine J8 ?_ hm|refine D5 ?_|refine D9 ?_|refine A7 ?_|refine H5 ?_|refine E8 ?_|refine A8 ?_|refine H7 ?_|refine H9 ?_|refine L6 ?_|refine U4 ?_;intro _ hkq;replace hm:=hm.kept0 hkq;clear hkq|refine F8 ?_|(refine D6 (ht:=fun _=>?_) (hf:=fun _=>?_)<;>try first|contradiction|omega)|refine P5 ?_|refine P7 ?_|refine V9 ?_|refine A44 ?_|refine X5 ?_|refine J3 ?_|refine J5 ?_|refine G6 ?_|refine A05 ?_|(refine O3 (fun _=>?_) (h1:=fun _=>?_)<;>try first|contradiction|omega))
   all_goals try (exfalso;first|omega|simp_all;done)
   all_goals exact⟨I,_,⟨rfl,rfl,da,dc,rfl⟩,hm⟩
theorem A29 (s:Sp.St) (e:Nat) (hr:A2e I T la lc) (hT:Ok T) (hi:s.i<=T.l.length) (hd:s.ds.length<1099511627776):
  CalM prog 96 #[ptr pb,nt e] I (QSt pb la lc T s deep da dc) (ToQ pb la lc T deep I (s.bad T e) (.tuple #[])):=by
 refine CalM.of fun w E hm=>enter (N:=59) func96 rfl [(0,ptr pb),(1,nt e)] A1P rfl ?_
 have h1:=hT.at_ s.i;have h2:=hT.size;have h3:=hT.len;by_cases hlt:s.i<T.l.length
 ·have htk:=A24 hlt
  repeat' (first|refine A0h ?_ (hr:=by exact hr) (he:=by intro _;rfl) (hz:=by exact htk);intro b1 o1 hp1|refine A0K (id:=3) (hm.perm pm1_1) [0,1,2,3,4,5,7,8,9] [6,10,11,12,13] 14 (h:=?_);clear hm;intro wd hR hm|refine A5r (d:=53) ?_ hR hm (hc:=A1X s hr);clear hm;intro _ hm|refine A5r (d:=49) ?_ hR hm (hc:=A0Z s hr);clear hm;intro _ hm|refine A0g ?_ hR|refine A3T ?_ hm|refine A2K (d:=56) ?_ hm;clear hm;intro a56 cp56 _ _ hm;replace hm:=hR.back hm;clear hR;try simp only[F7]at hm|refine H8 ?_ hm|refine J8 ?_ hm|refine U1 ?_ hm|refine J6 hm (k:=?_);clear hm;intro _ hm;try simp only[F7]at hm|refine D8 ?_|refine D5 ?_|refine E5 ?_|refine C9 ?_|refine D9 ?_|refine A7 ?_|refine E8 ?_|refine A8 ?_|refine A0f ?_|refine L6 ?_|refine U4 ?_;intro _ hkq;replace hm:=hm.kept0 hkq;clear hkq|(refine D6 (ht:=fun _=>?_) (hf:=fun _=>?_)<;>try first|contradiction|omega)|refine P5 ?_|refine A0d ?_|refine A0I ?_|refine A0O ?_|refine J3 ?_|refine J5 ?_|refine A2p ?_|refine G6 ?_|refine A1V ?_|refine Z4 ?_|refine S9 ?_|refine A08 ?_)
  exact⟨I,_,⟨rfl,rfl,_,_,B1e _ _ _ _ _ ⟨_,_,_,_⟩ _ _ _⟩,hm.swap⟩
 ·have he:T.tok s.i=⟨0,[],T.size⟩:=A4v (by omega)
  rw[Sp.St.bad,he];have hpk:=A1X (pb:=pb) (deep:=deep) (da:=da) (dc:=dc) s hr;have hhr:=A0Z (pb:=pb) (deep:=deep) (da:=da) (dc:=dc) s hr;rw[he]at hpk hhr;repeat' (first|refine A0K (id:=3) (hm.perm pm1_1) [0,1,2,3,4,5,7,8,9] [6,10,11,12,13] 14 (h:=?_);clear hm;intro wd hR hm|refine A5r (d:=53) ?_ hR hm (hc:=hpk);clear hm;intro _ hm|refine A5r (d:=49) ?_ hR hm (hc:=hhr);clear hm;intro _ hm|refine A0g ?_ hR|refine A3T ?_ hm|refine A2K (d:=56) ?_ hm;clear hm;intro a56 cp56 _ _ hm;replace hm:=hR.back hm;clear hR;try simp only[F7]at hm|refine H8 ?_ hm|refine J8 ?_ hm|refine J6 hm (k:=?_);clear hm;intro _ hm;try simp only[F7]at hm|refine D8 ?_|refine D5 ?_|refine E5 ?_|refine C9 ?_|refine D9 ?_|refine A7 ?_|refine E8 ?_|refine A8 ?_|refine F9 ?_|refine A0f ?_|refine L6 ?_|refine U4 ?_;intro _ hkq;replace hm:=hm.kept0 hkq;clear hkq|(refine D6 (ht:=fun _=>?_) (hf:=fun _=>?_)<;>try first|contradiction|omega)|refine P5 ?_|refine A0I ?_|refine J3 ?_|refine J5 ?_|refine G6 ?_|refine A1V ?_|refine Z4 ?_|refine S9 ?_|refine A08 ?_)
  exact⟨I,_,⟨rfl,rfl,_,_,B1e _ _ _ _ _ ⟨_,_,_,_⟩ _ _ _⟩,hm.swap⟩
end
end Go.Proofs
