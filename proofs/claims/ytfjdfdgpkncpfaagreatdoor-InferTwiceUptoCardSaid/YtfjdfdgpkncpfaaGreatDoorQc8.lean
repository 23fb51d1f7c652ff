/- Own work: texts PpC, SpecAtoi, ExM, FwMix, FwRow, FwTyM, SpecSmall, PpO, one behind the other. -/
import Derived.Test.YtfjdfdgpkncpfaaGreatDoorQc7
import Derived.Lib.AtoiAll
set_option maxHeartbeats 64000000
namespace Go.Sp
theorem B9n (n:Nat) (hn:n<256) (q:Nat) (hq:q<8):(n:Int).fdiv (2 ^ q)=((n / 2 ^ q:Nat):Int)/\(n / 2 ^ q) &&& 1=(bit n q).toNat/\(n|||2 ^ q)=(if bit n q=true then n else n+2 ^ q)/\(n|||2 ^ q)<256:=by
 revert hq;revert q;revert hn;revert n;decide+kernel
theorem B9m (q:Nat) (hq:q<8):(1:Int) *2 ^ q=((2 ^ q:Nat):Int)/\2 ^ q<256:=by
 revert hq;revert q;decide+kernel
def A3E (n:Nat) (c:UInt8):Nat:=if n<=1000000000 then 10 *n+(c.toNat-48) else n
theorem B4A (t:List UInt8):A3y t=t.foldl A3E 0:=rfl
theorem B1u:∀(r:List UInt8) (a:Nat),a<=r.foldl A3E a
 | [],a=>H6 _
 |c::r,a=>by
  rw[A1q];have:=B1u r (A3E a c);have:a<=A3E a c:=by rw[A3E];split<;>omega
  omega
theorem A9G:∀(r:List UInt8) (a:Nat),1000000000<a->r.foldl A3E a=a
 | [],a,_=>rfl
 |c::r,a,h=>by rw[A1q,A3E,if_neg (by omega)];exact A9G r a h
theorem A9f:∀(r:List UInt8) (a:Nat),(∀c∈r,48<=c.toNat/\c.toNat<=57)->r.foldl A3E a<=1000000000->Lib.parseUint10 a r=.ok (r.foldl A3E a)
 | [],a,_,_=>rfl
 |c::r,a,hd,h=>by
  rw[A1q]at h |-;have hc:=hd c Y1;have ha:a<=1000000000:=by
   have:=B1u r (A3E a c);have:a<=A3E a c:=by rw[A3E];split<;>omega
   omega
  have e:A3E a c=a *10+(c.toNat-48):=by rw[A3E,if_pos ha];omega
  rw[Lib.parseUint10,if_pos hc,if_neg (by omega),if_neg (by omega), <-e];exact A9f r _ (fun c hc=>hd c (A3L _ hc)) h
theorem B2y:∀(r:List UInt8) (a:Nat),(∀c∈r,48<=c.toNat/\c.toNat<=57)->1000000000<r.foldl A3E a->Lib.parseUint10 a r=.range\/∃u,1000000000<u/\Lib.parseUint10 a r=.ok u
 | [],a,_,h=> .inr ⟨a,h,rfl⟩
 |c::r,a,hd,h=>by
  rw[A1q]at h;have hc:=hd c Y1;rw[Lib.parseUint10,if_pos hc];split
  ·exact .inl rfl
  ·split
   ·exact .inl rfl
   ·refine B2y r _ (fun c hc=>hd c (A3L _ hc)) ?_
    by_cases ha:a<=1000000000
    ·have e:A3E a c=a *10+(c.toNat-48):=by rw[A3E,if_pos ha];omega
     rw[<-e];exact h
    ·rw[A9G r _ (by omega)];omega
theorem B1p (t:List UInt8) (hn:1<=t.length) (hd:∀c∈t,48<=c.toNat/\c.toNat<=57):
  (A3y t<=1000000000->Lib.atoiAll t=.ok (A3y t:Int))/\(1000000000<A3y t->Lib.atoiAll t=.range\/∃v:Int,1000000000<v/\Lib.atoiAll t=.ok v):=by
 rw[B4A];cases t with
 |nil=>simp at hn
 |cons c r=>
  have hc:=hd c Y1;have hp:Lib.parseMag (if c.toNat=43\/c.toNat=45 then r else c::r)=Lib.parseUint10 0 (c::r):=by
   rw[if_neg (by omega),Lib.parseMag,if_neg (by simp)]
  have hneg:¬c.toNat=45:=by omega
  constructor
  ·intro h
   have h1:=A9f (c::r) 0 hd h;simp only[Lib.atoiAll];rw[hp,h1];generalize (c::r).foldl A3E 0=d at h |-;simp only[hneg];simp
   omega
  ·intro h
   simp only[Lib.atoiAll];rw[hp];rcases B2y (c::r) 0 hd h with h1|⟨u,hu,h1⟩
   ·rw[h1];exact .inl rfl
   ·rw[h1]
    simp only[hneg];by_cases h2:9223372036854775808<=u
    ·exact .inl (by simp[h2])
    ·exact .inr ⟨(u:Int),by omega,by simp[h2]⟩
theorem B6B (t:List UInt8):A2X t<=3:=by
 rw[A2X];split
 ·omega
 ·split
  ·omega
  ·split<;>omega
end Go.Sp
namespace Go.Fw
open Go.Sp
open Go
section
variable {P:Program}{ops:Array Oper}{md:Region.Mode}{C:World->Prop}
def A72 (P:Program) (ops:Array Oper) (C:World->Prop) (K:Act->World->Prop):List (Bool×Oper)->Act->World->Prop
 | [],a,w=>K a w
 |(true,o)::r,a,w=> ∃v,A1W P ops C o v a/\A72 P ops C K r (a.put o.dst v) w
 |(false,o)::r,a,w=>if Region.wanted o (yielded ops a.tmps) then (∃u w',(execOp a.eval o).run P w=.ok (.value u) w'/\C w'/\A72 P ops C K r (a.put o.dst u) w')\/
   (∃f args,(execOp a.eval o).run P w=.ok (.enter f args) w/\Calls P f args w (fun e w'=> ∃u,e=.returned u/\C w'/\A72 P ops C K r (a.put o.dst u) w')) else C w/\A72 P ops C K r (a.put o.dst undef) w
def B3c (md:Region.Mode) (ops:Array Oper) (g n:Nat):List (Bool×Nat)->Array Bool->Bool
 | [],listed=>Region.seqB md ops g n listed
 |(true,k)::r,listed=>(Region.ready md ops listed).contains k && Region.free md ops listed k && decide (k<n) && B3c md ops g n r (listed.setIfInBounds k true)
 |(false,k)::r,listed=>decide (Region.ready md ops listed= [k]) && decide (k<n) && B3c md ops g n r (listed.setIfInBounds k true)
theorem A8K {n g:Nat}{Lq:Act->World->Prop} (hsel:Region.noSelect ops=true) (hs:Region.sinkB md ops n=true) (hc:Region.chainB md ops n=true) (hn:n<ops.size):
  ∀(st:List (Bool×Nat)) (l:List (Bool×Oper)) (listed:Array Bool) (a:Act) (w:World),C w->st.map (fun p=>(p.1,ops[p.2]?))=l.map (fun p=>(p.1,some p.2))->HeadInv md ops n listed->
  B3c md ops g n st listed=true->A72 P ops C Lq l a w->
  A8s P md ops C n (fun listed' a' w'=>Region.seqB md ops g n listed'=true/\Lq a' w') l.length listed a w
 | [],[],listed,a,w,_,_,_,hB,h=>⟨by simpa[B3c] using hB,h⟩
 |(true,k)::st,(b,o)::l,listed,a,w,hC,hl,inv,hB,h=>by
  simp only[Y2,A3R,Prod.mk.injEq]at hl;obtain⟨⟨hb,h0⟩,hl'⟩:=hl;subst hb;simp only[B3c,Q7,decide_eq_true_eq]at hB;obtain⟨⟨⟨hr,hf⟩,hkn⟩,hB'⟩:=hB;have hr':k∈Region.ready md ops listed:=by simpa using hr
  obtain⟨v,hy,hK⟩:=h;exact B02 h0 (Region.noSelect_spec hsel) hs hc hn hkn (fun listed' a' w' hL=>seqB_ready hL.1) l.length listed a w hC inv (Region.free_spec h0 hf) hr' hy
   (A8K hsel hs hc hn st l _ _ w hC hl' (inv.set hr' hkn) hB' hK)
 |(false,k)::st,(b,o)::l,listed,a,w,hC,hl,inv,hB,h=>by
  simp only[Y2,A3R,Prod.mk.injEq]at hl;obtain⟨⟨hb,h0⟩,hl'⟩:=hl;subst hb;simp only[B3c,Q7,decide_eq_true_eq]at hB;obtain⟨⟨hB1,hkn⟩,hB2⟩:=hB;have hr':k∈Region.ready md ops listed:=by rw[hB1];simp
  refine⟨fun h1=>(by rw[hB1]at h1;cases h1),fun i hi=>?_⟩
  rw[hB1]at hi;have hik:i=k:=by simpa using hi
  subst hik;refine⟨hkn,?_⟩
  have next:∀a' w',C w'->A72 P ops C Lq l a' w'->A8s P md ops C n (fun listed' a' w'=>Region.seqB md ops g n listed'=true/\Lq a' w') l.length (listed.setIfInBounds i true) a' w':=fun a' w' hC' h'=>
   A8K hsel hs hc hn st l _ a' w' hC' hl' (inv.set hr' hkn) hB2 h'
  unfold vOp
  simp only[h0];unfold A72 at h
  split
  ·rename_i hw
   rw[if_pos hw]at h;rcases h with ⟨u,w',h1,h2,h3⟩|⟨f,args,h1,h2⟩
   ·exact .inl ⟨u,w',h1,h2,next _ _ h2 h3⟩
   ·exact .inr ⟨f,args,h1,Calls.mono h2 (fun e w' ⟨u,he,hc,h⟩=>⟨u,he,hc,next _ _ hc h⟩)⟩
  ·rename_i hw
   rw[if_neg hw]at h;exact⟨h.1,next _ _ h.1 h.2⟩
 | [],_::_,_,_,_,_,hl,_,_,_=>by simp at hl
 |_::_,[],_,_,_,_,hl,_,_,_=>by simp at hl
def B1X (P:Program) (ops:Array Oper) (C:World->Prop) (K:Act->World->Prop):List (List Oper×List Oper)->Act->World->Prop
 | [],a,w=>K a w
 |(q,t)::r,a,w=>A6k P ops C (fun a'=>A3C P ops C (fun a'' w''=>B1X P ops C K r a'' w'') t a' w) q a
def A6i {α:Type}:List (List α×List α)->List (Bool×α)
 | []=> []
 |(q,t)::r=>q.map (fun x=>(true,x))++(t.map (fun x=>(false,x))++A6i r)
theorem A7G {K:Act->World->Prop}{r:List (Bool×Oper)}:∀(t:List Oper) (a:Act) (w:World),A3C P ops C (fun a' w'=>A72 P ops C K r a' w') t a w->A72 P ops C K (t.map (fun x=>(false,x))++r) a w
 | [],a,w,h=>h
 |o::t,a,w,h=>by
  unfold A3C at h
  rw[Y2,A0a];unfold A72
  split
  ·rename_i hw
   rw[if_pos hw]at h;rcases h with ⟨u,w',h1,h2,h3⟩|⟨f,args,h1,h2⟩
   ·exact .inl ⟨u,w',h1,h2,A7G t _ _ h3⟩
   ·exact .inr ⟨f,args,h1,Calls.mono h2 (fun e w' ⟨u,he,hc,h⟩=>⟨u,he,hc,A7G t _ _ h⟩)⟩
  ·rename_i hw
   rw[if_neg hw]at h;exact⟨h.1,A7G t _ _ h.2⟩
theorem A94 {K:Act->World->Prop}{r:List (Bool×Oper)}{w:World}:∀(q:List Oper) (a:Act),A6k P ops C (fun a'=>A72 P ops C K r a' w) q a->A72 P ops C K (q.map (fun x=>(true,x))++r) a w
 | [],a,h=>h
 |o::q,a,h=>by
  obtain⟨v,h1,h2⟩:=h;exact⟨v,h1,A94 q _ h2⟩
theorem A5w {K K':Act->World->Prop} (hk:∀a w,K a w->K' a w):∀(t:List Oper) (a:Act) (w:World),A3C P ops C K t a w->A3C P ops C K' t a w
 | [],a,w,h=>hk _ _ h
 |o::t,a,w,h=>by
  unfold A3C at h |-
  split
  ·rename_i hw
   rw[if_pos hw]at h;rcases h with ⟨u,w',h1,h2,h3⟩|⟨f,args,h1,h2⟩
   ·exact .inl ⟨u,w',h1,h2,A5w hk t _ _ h3⟩
   ·exact .inr ⟨f,args,h1,Calls.mono h2 (fun e w' ⟨u,he,hc,h⟩=>⟨u,he,hc,A5w hk t _ _ h⟩)⟩
  ·rename_i hw
   rw[if_neg hw]at h;exact⟨h.1,A5w hk t _ _ h.2⟩
theorem A87 {K K':Act->Prop} (hk:∀a,K a->K' a):∀(q:List Oper) (a:Act),A6k P ops C K q a->A6k P ops C K' q a
 | [],a,h=>hk _ h
 |o::q,a,h=>by
  obtain⟨v,h1,h2⟩:=h;exact⟨v,h1,A87 hk q _ h2⟩
theorem B1Y {K:Act->World->Prop}:∀(gs:List (List Oper×List Oper)) (a:Act) (w:World),B1X P ops C K gs a w->A72 P ops C K (A6i gs) a w
 | [],_,_,h=>h
 |(q,t)::r,a,w,h=>A94 q a (A87 (fun a' h'=>A7G t a' w (A5w (fun a'' w'' h''=>B1Y r a'' w'' h'') t a' w h')) q a h)
def A8i (os:List Oper):List (List Nat×List Nat)->List (List Oper×List Oper)
 | []=> []
 |(ks,js)::r=>(A3F os ks,A3F os js)::A8i os r
def B6S (n:Nat):List (List Nat×List Nat)->Bool
 | []=>true
 |(ks,js)::r=>ks.all (fun k=>Nat.blt k n) && (js.all (fun k=>Nat.blt k n) && B6S n r)
theorem A92 (os:List Oper):∀(gs:List (List Nat×List Nat)),B6S os.length gs=true->(A6i gs).map (fun p=>(p.1,os.toArray[p.2]?))=(A6i (A8i os gs)).map (fun p=>(p.1,some p.2))/\(A6i (A8i os gs)).length=(A6i gs).length
 | [],_=>⟨rfl,rfl⟩
 |(ks,js)::r,h=>by
  simp only[B6S,Q7]at h;obtain⟨k1,k2⟩:=A4y os ks h.1;obtain⟨j1,j2⟩:=A4y os js h.2.1;obtain⟨r1,r2⟩:=A92 os r h.2.2;constructor
  ·simp only[A8i,A6i,A1I,List.map_map]
   rw[r1];have e:∀(b:Bool) (ks:List Nat) (l:List Oper),ks.map (os.toArray[·]?)=l.map some->ks.map ((fun p:Bool×Nat=>(p.1,os.toArray[p.2]?)) ∘ fun x=>(b,x))=l.map ((fun p:Bool×Oper=>(p.1,some p.2)) ∘ fun x=>(b,x)):=fun b ks l hl=>by
    have:=congrArg (List.map (fun z=>(b,z))) hl;simpa[List.map_map,Function.comp_def] using this
   rw[e true ks _ k1,e false js _ j1]
  ·simp only[A8i,A6i,Y4,A3S]
   rw[k2,j2,r2]
def B56 (ops:Array Oper) (gs:List (List Nat×List Nat)) (n:Nat):Bool:=
 Region.noSelect ops && decide (n<ops.size) && Region.sinkB .any ops n && Region.chainB .any ops n && B3c .any ops (ops.size-n) n (A6i gs) (Array.replicate ops.size false) && decide ((A6i gs).length=n) && B6S ops.size gs
theorem A9v {id:Nat}{Q:Exit->Act->World->Prop}{a:Act}{w:World}{l:List Oper} (gs:List (List Nat×List Nat)) (n:Nat) (hm:P.follows .mixedOrders=true) (hB:B56 l.toArray gs n=true)
  (hC:C { w with drawn:=w.drawn+1})
  (h:B1X P l.toArray C (fun a' w'=>wpList P l.toArray Q (l.drop n) a' w') (A8i l gs) a { w with drawn:=w.drawn+1}):(Code.region id l.toArray true).wp P Q a w:=by
 simp only[B56,Q7,decide_eq_true_eq]at hB;obtain⟨⟨⟨⟨⟨⟨hsel,hn⟩,hs⟩,hc⟩,hlex⟩,hlen⟩,hall⟩:=hB;have hn':n<l.length:=by simpa using hn
 have hdl:(l.drop n).length=l.toArray.size-n:=by simp
 obtain⟨k1,k2⟩:=A92 l gs (by simpa using hall);have inv0:HeadInv .any l.toArray n (Array.replicate l.toArray.size false):=
  ⟨by simp,fun j oj _ hl=>(by rw[getD_replicate_false]at hl;cases hl),fun t _ ht=>getD_in (by simpa using ht) (getD_replicate_false _ _)⟩
 have H:=A8K (md:=.any) (g:=l.toArray.size-n) hsel hs hc hn (A6i gs) (A6i (A8i l gs)) _ a _ hC k1 inv0 hlex (B1Y _ _ _ h);refine wp_region_any hm ?_
 have:=A7o (Q':=Q) (g:=l.toArray.size-n) (fun listed a' w' hL=>by
  have:=wpAny_of_seq (md:=.any) (Q':=Q) (l.drop n) n listed a' w' (fun j=>by simp[A1f]) (by rw[hdl];exact hL.1) hL.2
  rwa [hdl]at this) _ _ _ _ H
 rw[k2,hlen,show n+(l.toArray.size-n)=l.toArray.size by omega]at this;exact this
end
section
variable {P:Program}{N:Nat}{ds:List Deferred}{X:List Nat}{Q:Exit->Act->World->Prop}{l:Log}{w w0:World}{os tail:List Oper}{ops:Array Oper}{E:Ent}{I:U0}{G R:List HItem}
structure WX (P:Program) (N:Nat) (ds:List Deferred) (ops:Array Oper) (Q:Exit->Act->World->Prop) (X:List Nat) (w0:World) (gs:List (List Oper×List Oper)) (tail:List Oper) (l:Log) (w:World):Prop where
 run:∀a,Fits N ds l a->B1X P ops (fun w'=>Kept X w0 w') (fun a' w'=>wpList P ops Q tail a' w') gs a w
theorem A4Y [Mixed P] {id:Nat} (hm:Mem E I (G++R) w) (gs:List (List Nat×List Nat)) (n:Nat) (hB:B56 os.toArray gs n=true:=by kernel_rfl)
  (h:∀wd,Mem E I (G++R) wd->Mem ⟨wd,A10 G,I⟩ I G wd->WX P N ds os.toArray Q (A10 G) wd (A8i os gs) (os.drop n) l wd):
  WC P N ds (.region id os.toArray true) Q l w:=
 ⟨fun a ha=>A9v (C:=fun w'=>Kept (A10 G) { w with drawn:=w.drawn+1} w') gs n Mixed.out hB (Kept.refl _ _) ((h _ (hm.kept0 (Kept.drew w)) (hm.kept0 (Kept.drew w)).sub).run a ha)⟩
theorem A9k (h:WL P N ds ops Q tail l w):WX P N ds ops Q X w0 [] tail l w:=⟨fun a ha=>h.run a ha⟩
theorem A7N {q t:List Oper}{r:List (List Oper×List Oper)} (h:WV P N ds ops X w0 (fun a'=>A3C P ops (fun w'=>Kept X w0 w') (fun a'' w''=>B1X P ops (fun w'=>Kept X w0 w') (fun a' w'=>wpList P ops Q tail a' w') r a'' w'') t a' w) q l):
  WX P N ds ops Q X w0 ((q,t)::r) tail l w:=⟨fun a ha=>h.run a ha⟩
theorem A7M {t:List Oper}{r:List (List Oper×List Oper)} (h:WS P N ds ops (fun _ a w=>B1X P ops (fun w'=>Kept X w0 w') (fun a' w'=>wpList P ops Q tail a' w') r a w) X w0 t [] l w):
  WV P N ds ops X w0 (fun a'=>A3C P ops (fun w'=>Kept X w0 w') (fun a'' w''=>B1X P ops (fun w'=>Kept X w0 w') (fun a' w'=>wpList P ops Q tail a' w') r a'' w'') t a' w) [] l:=⟨fun a ha=>by
 refine A5w (fun a' w' h'=>?_) t a w (h.run a ha)
 simpa[wpList] using h'⟩
theorem B5z {r:List (List Oper×List Oper)} (h:WX P N ds ops Q X w0 r tail l w):At N ds (fun _ a w=>B1X P ops (fun w'=>Kept X w0 w') (fun a' w'=>wpList P ops Q tail a' w') r a w) .normal l w:=⟨fun a ha=>h.run a ha⟩
end
section
variable {P:Program}{N:Nat}{ds:List Deferred}{Q:Exit->Act->World->Prop}{K:Act->World->Prop}{l l':Log}{w w':World}{ops:Array Oper}{os:List Oper}
variable {d:Nat}{ty:TypeId}{pos:String}{af:Array Edge}{g:Option (Nat×Bool)}{t t':TypeId}{x y z:Operand}
variable {E:Ent}{I I':U0}{H H' R:List HItem}
theorem A1k {e:TypeId} [TySlice P t e] {a:Option Addr}{n c:Nat}{k0:Value} (k:WL P N ds ops Q os ((d,.bool a.isNone)::l) w) (hw:O8 ops l ⟨some d,.binOp .eql t x (.const k0) t',ty,pos,af,g⟩=some true:=by rfl) (hN:Nat.blt d N=true:=by rfl)
  (hx:ev l x=some (.slice a n c):=by rfl) (hk:k0=.slice none 0 0:=by rfl)  :
  WL P N ds ops Q (⟨some d,.binOp .eql t x (.const k0) t',ty,pos,af,g⟩::os) l w:=
 O9 rfl hw hN (fun c' hc=>by
  subst hk;have h1:=run_underlying (P:=P) (w:=w) (TySlice.out (P:=P) (t:=t));have e2:c'.eval (.const (.slice none 0 0))=.slice none 0 0:=rfl;have h2:(Op.equal t (.slice a n c) (.slice none 0 0)).run P w=.ok a.isNone w:=by
   show (Op.equalIn (9999+1) t (.slice a n c) (.slice none 0 0)).run P w=_
   rw[Op.equalIn];cases a<;>simp[h1]
  simp[execOp,hc.ev hx,e2,eqGuard,binOp,h2]) k
theorem A5Y {e:TypeId}{sz by_ n:Nat} [TySlice P t e] [Elem P e sz by_] {ps:List (Nat×Operand)}{vs:List (Nat×Value)}{xs:List Value} (k:∀b w',Mem E I (.row (.slice (some ⟨b,0,none⟩) n n) e sz n xs::H) w'->WL P N ds ops Q os ((d,.slice (some ⟨b,0,none⟩) n n)::l) w') (hm:Mem E I H w)
  (hw:O8 ops l ⟨some d,.buildSlice t n ps.toArray,ty,pos,af,g⟩=some true:=by rfl) (hN:Nat.blt d N=true:=by rfl) (hx:evp l ps=some vs:=by rfl)
  (hi:vs.map (·.1)=List.range' 0 n:=by rfl) (hs:vs.all (fun p=>Nat.beq p.2.cells.toList.length sz)=true:=by rfl) (hn:Nat.ble (n *sz) 16777216=true:=by rfl) (hn2:Nat.ble n 16777216=true:=by rfl) (hxs:vs.flatMap (·.2.cells.toList)=xs:=by rfl) (hl:xs.length=n *sz:=by rfl)
   :
  WL P N ds ops Q (⟨some d,.buildSlice t n ps.toArray,ty,pos,af,g⟩::os) l w:=by
 subst hxs;refine A5f hw hN hx hi hs (A3J hn) (fun b w' hb hh hk=>k b w' (hm.add hk ⟨hl,.inr ⟨b,n,_,rfl,J7 _,hh,H6 _,?_,by simpa using hl,?_⟩⟩ (fun b' hb'=>?_)))
 ·have:=A3J hn2
  unfold maxLen;omega
 ·rw[<-hl];exact A0b
 ·simp only[HItem.blk,Value.ownBlock,U5]at hb';omega
theorem A6M {e:TypeId}{sz by_:Nat} [TySlice P t e] [Elem P e sz by_] {i:Nat}{v:Value}{n m cp:Nat}{ad:Addr}{xs us:List Value} (k:∀a cp' w',Mem E I (H.set i (.row (.slice a (n+m) cp') e sz (n+m) (xs++us))) w'->WL P N ds ops Q os ((d,.slice a (n+m) cp')::l) w') (hm:Mem E I H w)
  (hw:O8 ops l ⟨some d,.call ⟨.builtin .append, #[x,y], #[t,t]⟩,ty,pos,af,g⟩=some true:=by rfl) (hN:Nat.blt d N=true:=by rfl)
  (hx:ev l x=some v:=by rfl) (hy:ev l y=some (.slice (some ad) m cp):=by rfl) (hi:H[i]?=some (.row v e sz n xs):=by first|exact gt0|exact gt1|exact gt2|exact gt3|exact gt4|exact gt5|exact gt6) (hr:RowI I e sz (.slice (some ad) m cp) m us) (h1:us.all (·.oneCell')=true)
  (hlen:(n+m) *by_<=140737488355328:=by omega) (h63:n+m<=9223372036854775807:=by omega)
   :
  WL P N ds ops Q (⟨some d,.call ⟨.builtin .append, #[x,y], #[t,t]⟩,ty,pos,af,g⟩::os) l w:=by
 have hown:=hm.getRow hi;have hus:=hr.len;have hcell:∀j u,us[j]?=some u->w.cell? (ad.add j)=some u:=fun j u hj=>by
  obtain⟨_,a',cap',e1,e2,e3⟩:=hr;injection e1 with e1 _ _
  have hm0:0<m:=by
   rcases A3P m with h0|h0
   ·rw[h0,A09]at hus
    have:=A1Y hus;subst this;simp at hj
   ·exact h0
  obtain⟨b,off,c,fr,f1,f2,f3⟩:=e3 hm0;rw[f1]at e1;injection e1 with e1
  subst e1;rw[Addr.add_lit];exact A2Z (hm.inv _ _ f2) (f3 j u hj)
 obtain⟨v',w',hrun,ho,hk,hb⟩:=A54 (P:=P) (t:=t) hown ad m cp us hus hcell (fun r hr=>A3p.1 h1 r hr) h63 hlen (J7 _) ty;have hm':=hm.turn (h':=.row v' e sz (n+m) (xs++us)) hi hk ho (hb.imp_right fun ⟨g,h1,h2⟩=>⟨g,h1,h2⟩);have hlt:i<H.length:=(Z8.1 hi).1;obtain⟨a,cp',rfl⟩:=A4r (hm'.getRow (i:=i) (by rw[A2w];simp[hlt];exact⟨rfl,rfl,rfl,rfl,rfl⟩));refine O9 (w':=w') (v:=.slice a (n+m) cp') rfl hw hN (fun a ha=>?_) (k a cp' w' hm')
 simp[execOp,resolve,invoke,builtin,ha.ev hx,ha.ev hy,hrun]
theorem B13 {G:List HItem}{KV:Act->Prop}{n:Nat} [TyAgg P t n] {i b off:Nat}{c:List Value}{e:TypeId}{fr:Nat×Nat}{vs:List Value} (k:WV P N ds ops (A10 G) w KV os ((d,.agg vs.toArray)::l)) (hR:Mem E I (G++R) w) (hw:O8 ops l ⟨some d,.load t x,ty,pos,af,g⟩=some true:=by rfl) (hN:Nat.blt d N=true:=by rfl)
  (hx:ev l x=some (.pointer (some ⟨b,off,none⟩)):=by rfl) (hb:R[i]?=some (.obj b (.cells c.toArray e fr)):=by first|exact gt0|exact gt1|exact gt2|exact gt3|exact gt4|exact gt5|exact gt6) (hc:(c.drop off).take n=vs:=by rfl) (hl:vs.length=n:=by rfl)
   :WV P N ds ops (A10 G) w KV (⟨some d,.load t x,ty,pos,af,g⟩::os) l:=
 B03 hw hN hx (hR.right.get hb) (hR.notG hb rfl) hl (fun j v hv=>by
  rw[<-hc,A1H]at hv;split at hv
  ·rw[A1f]at hv;simpa using hv
  ·cases hv) k
end
end Go.Fw
namespace Go.Sp
mutual
def Ex.small:Ex->Prop
 | .mk _ _ _ args _ _=>args.length<=64/\A1c args
def A1c:List Ex->Prop
 | []=>True
 |e::es=>e.small/\A1c es
 end
mutual
def Stm.small:Stm->Prop
 | .mk _ _ _ _ _ e thn els _ _=>e.small/\thn.length<=64/\W9 thn/\els.length<=64/\W9 els
def W9:List Stm->Prop
 | []=>True
 |e::es=>e.small/\W9 es
 end
theorem A6S:∀ {l:List Ex}{e:Ex},A1c l->e.small->A1c (l++ [e])
 | [],e,_,h=>by rw[Y5,A1c,A1c];exact⟨h,trivial⟩
 |a::l,e,h,he=>by
  rw[A1c]at h;rw[A0a,A1c];exact⟨h.1,A6S h.2 he⟩
theorem A6E:∀ {l:List Stm}{e:Stm},W9 l->e.small->W9 (l++ [e])
 | [],e,_,h=>by rw[Y5,W9,W9];exact⟨h,trivial⟩
 |a::l,e,h,he=>by
  rw[W9]at h;rw[A0a,W9];exact⟨h.1,A6E h.2 he⟩
theorem A12:∀ {l:List Ex}{i:Nat}{e:Ex},A1c l->l[i]?=some e->e.small
 | [],_,_,_,h=>by simp at h
 |a::l,0,e,h,he=>by
  rw[A1c]at h;simp only[A0S,U5]at he;exact he ▸ h.1
 |a::l,i+1,e,h,he=>by
  rw[A1c]at h;exact A12 h.2 (by simpa using he)
theorem A1N:∀ {l:List Stm}{i:Nat}{e:Stm},W9 l->l[i]?=some e->e.small
 | [],_,_,_,h=>by simp at h
 |a::l,0,e,h,he=>by
  rw[W9]at h;simp only[A0S,U5]at he;exact he ▸ h.1
 |a::l,i+1,e,h,he=>by
  rw[W9]at h;exact A1N h.2 (by simpa using he)
theorem A2t (k n f t:Nat) (nm:List UInt8):(Ex.mk k nm n [] f t).small:=by rw[Ex.small,A1c];exact⟨by simp,trivial⟩
theorem A9a (T:Src):∀f,(∀d s,(A4z T f d s).1.small)/\(∀d l s,l.length<=5->A1c l->(A31 T f d l s).1.length<=5/\A1c (A31 T f d l s).1)/\(∀d m s,(A0Q T f d m s).1.small)/\(∀d m e s,Ex.small e->(opL T f d m e s).1.small)
 |0=>⟨fun _ _=>by rw[A4z];exact A2t _ _ _ _ _,fun _ _ _ h1 h2=>by rw[A31];exact⟨h1,h2⟩,fun _ _ _=>by rw[A0Q];exact A2t _ _ _ _ _,fun _ _ _ _ h=>by rw[opL];exact h⟩
 |f+1=>by
  obtain⟨hA,hL,hE,hO⟩:=A9a T f;refine⟨fun d s=>?_,fun d l s h1 h2=>?_,fun d m s=>?_,fun d m e s h=>?_⟩
  ·rw[A4z]
   dsimp only
   split
   ·exact A2t _ _ _ _ _
   ·split
    ·exact A2t _ _ _ _ _
    ·split
     ·split<;>exact A2t _ _ _ _ _
     ·split
      ·exact hE _ _ _
      ·split
       ·exact A2t _ _ _ _ _
       ·split
        ·exact A2t _ _ _ _ _
        ·have:=hL (d+1) [] s.next.next (by simp) (by rw[A1c];trivial)
         rw[Ex.small];exact⟨by omega,this.2⟩
  ·rw[A31]
   split
   ·exact⟨h1,h2⟩
   ·split
    ·exact⟨h1,h2⟩
    ·rename_i h5
     have hs:=A6S h2 (hE d 1 s);have hl:(l++ [(A0Q T f d 1 s).1]).length<=5:=by simp;omega
     try dsimp only
     split
     ·exact hL _ _ _ hl hs
     ·exact⟨hl,hs⟩
  ·rw[A0Q]
   try dsimp only
   exact hO _ _ _ _ (hA _ _)
  ·rw[opL]
   try dsimp only
   split
   ·exact h
   ·refine hO _ _ _ _ ?_
    rw[Ex.small,A1c,A1c,A1c];exact⟨by simp,h,hE _ _ _,trivial⟩
theorem A1t:W9 []:=by rw[W9];trivial
theorem A57 (k a lb f t:Nat) (o:Bool) (nm:List UInt8) (e:Ex) (h:e.small):(Stm.mk k nm a lb o e [] [] f t).small:=by
 rw[Stm.small];exact⟨h,by simp,A1t,by simp,A1t⟩
theorem A6C (T:Src):∀f,(∀d s,(block T f d s).1.length<=40/\W9 (block T f d s).1)/\(∀d l s,l.length<=40->W9 l->(A4j T f d l s).1.length<=40/\W9 (A4j T f d l s).1)/\(∀d s,(stm T f d s).1.small)
 |0=>⟨fun _ _=>by rw[block];exact⟨by simp,A1t⟩,fun _ _ _ h1 h2=>by rw[A4j];exact⟨h1,h2⟩,fun _ s=>by rw[stm];exact A57 _ _ _ _ _ _ _ _ (A2t _ _ _ _ _)⟩
 |f+1=>by
  obtain⟨hB,hL,hS⟩:=A6C T f;have hE:=(A9a T f).2.2.1;refine⟨fun d s=>?_,fun d l s h1 h2=>?_,fun d s=>?_⟩
  ·rw[block]
   split
   ·exact⟨by simp,A1t⟩
   ·split
    ·exact⟨by simp,A1t⟩
    ·dsimp only
     exact hL _ _ _ (by simp) A1t
  ·rw[A4j]
   split
   ·exact⟨h1,h2⟩
   ·split
    ·exact⟨h1,h2⟩
    ·dsimp only
     exact hL _ _ _ (by simp;omega) (A6E h2 (hS d s))
  ·rw[stm]
   dsimp only
   have two:∀(k a lb f t:Nat) (o:Bool) (nm:List UInt8) (e:Ex) (b c:List Stm),e.small->b.length<=40/\W9 b->c.length<=40/\W9 c->(Stm.mk k nm a lb o e b c f t).small:=fun k a lb f t o nm e b c h1 h2 h3=>by
    rw[Stm.small];exact⟨h1,by omega,h2.2,by omega,h3.2⟩
   have nil2:([]:List Stm).length<=40/\W9 []:=⟨by simp,A1t⟩;repeat' split
   all_goals first
    |exact A57 _ _ _ _ _ _ _ _ (hE _ _ _)
    |exact two _ _ _ _ _ _ _ _ _ _ (hE _ _ _) (hB _ _) (hB _ _)
    |exact two _ _ _ _ _ _ _ _ _ _ (hE _ _ _) (hB _ _) nil2
    |exact A57 _ _ _ _ _ _ _ _ (A2t _ _ _ _ _)
theorem A6w (T:Src):∀(f:Nat) (l:List Par) (s:St),l.length<=5->(A5v T f l s).1.length<=5/\(s.i<=T.l.length->s.i<=(A5v T f l s).2.i/\(A5v T f l s).2.i<=T.l.length/\(A5v T f l s).2.ds.length<=s.ds.length+2 *((A5v T f l s).2.i-s.i)+3 *f)
 |0,l,s,h=>by rw[A5v];exact⟨h,fun hi=>⟨H6 _,hi,by dsimp only;omega⟩⟩
 |f+1,l,s,h=>by
  rw[A5v];split
  ·exact⟨h,fun hi=>⟨H6 _,hi,by dsimp only;omega⟩⟩
  ·split
   ·exact⟨h,fun hi=>⟨H6 _,hi,by simp[St.bad];omega⟩⟩
   ·dsimp only
    have g1:=A0R T s;have g2:=Z5 T (s.named T).2 [58];have g3:=A2D T ((s.named T).2.need T [58]).2;have a1:=g1.le;have a2:=g1.top;have a3:=g1.ds;have b1:=g2.le;have b2:=g2.top;have b3:=g2.ds;have c1:=g3.le;have c2:=g3.top;have c3:=g3.ds;split
    ·exact⟨h,fun hi=>⟨by dsimp only;omega,b2 (a2 hi),by dsimp only;omega⟩⟩
    ·split
     ·rename_i h5
      have h6:=is_lt h5;have ih:=A6w T f (l++ [⟨(s.named T).1,(lab T ((s.named T).2.need T [58]).2).1,(T.tok s.i).pos⟩]) (lab T ((s.named T).2.need T [58]).2).2.next (by simp;omega);refine⟨ih.1,fun hi=>?_⟩
      have e1:(lab T ((s.named T).2.need T [58]).2).2.next.i=(lab T ((s.named T).2.need T [58]).2).2.i+1:=rfl;have e2:(lab T ((s.named T).2.need T [58]).2).2.next.ds.length=(lab T ((s.named T).2.need T [58]).2).2.ds.length:=rfl;obtain⟨i1,i2,i3⟩:=ih.2 (by omega);exact⟨by omega,i2,by omega⟩
     ·exact⟨by simp;omega,fun hi=>⟨by dsimp only;omega,c2 (b2 (a2 hi)),by dsimp only;omega⟩⟩
theorem A6D (T:Src):∀(f:Nat) (l:List Rf) (s:St),l.length<=5->(A40 T f l s).1.length<=5/\(s.i<=T.l.length->s.i<=(A40 T f l s).2.i/\(A40 T f l s).2.i<=T.l.length/\(A40 T f l s).2.ds.length<=s.ds.length+2 *((A40 T f l s).2.i-s.i)+3 *f)
 |0,l,s,h=>by rw[A40];exact⟨h,fun hi=>⟨H6 _,hi,by dsimp only;omega⟩⟩
 |f+1,l,s,h=>by
  rw[A40];split
  ·exact⟨h,fun hi=>⟨H6 _,hi,by simp[St.bad];omega⟩⟩
  ·dsimp only
   have g1:=A0R T s;have a1:=g1.le;have a2:=g1.top;have a3:=g1.ds;split
   ·rename_i h5
    have h6:=is_lt h5;have ih:=A6D T f (l++ [⟨(s.named T).1,(T.tok s.i).pos⟩]) (s.named T).2.next (by simp;omega);refine⟨ih.1,fun hi=>?_⟩
    have e1:(s.named T).2.next.i=(s.named T).2.i+1:=rfl;have e2:(s.named T).2.next.ds.length=(s.named T).2.ds.length:=rfl;obtain⟨i1,i2,i3⟩:=ih.2 (by omega);exact⟨by omega,i2,by omega⟩
   ·exact⟨by simp;omega,fun hi=>⟨by dsimp only;omega,a2 hi,by dsimp only;omega⟩⟩
structure Itm.small (it:Itm):Prop where
 params:it.params.length<=5
 sends:it.sends.length<=5
 body:it.body.length<=40
 stms:W9 it.body
 diags:it.diags.length<=40000000
theorem B1G (T:Src) (at_:Int) (size:Nat) (s:St) (hT:T.l.length<=1048576) (hi:s.i<=T.l.length) (hd:s.ds= []):
  (A5m T at_ size s).1.params.length<=5/\(A5m T at_ size s).1.sends.length<=5/\(A5m T at_ size s).1.body.length<=40/\W9 (A5m T at_ size s).1.body/\(A5m T at_ size s).2.ds.length<=39000000:=by
 rw[A5m];dsimp only
 have g1:=A0R T s;generalize s.named T=r at g1 |-;have g2:=Z5 T r.2 [40];generalize r.2.need T [40]=s1 at g2 |-;have p:=A6w T 6 [] s1.2 (by simp);generalize A5v T 6 [] s1.2=r2 at p |-;have g3:=Z5 T r2.2 [41];generalize r2.2.need T [41]=s3 at g3 |-;have g4:=Z5 T s3.2 [58];generalize s3.2.need T [58]=s4 at g4 |-;have g5:=A2D T s4.2;generalize lab T s4.2=r5 at g5 |-;have hd0:s.ds.length=0:=by rw[hd];rfl
 have a2:=g1.top hi;have a3:=g1.ds;have a1:=g1.le;have b2:=g2.top a2;have b3:=g2.ds;have b1:=g2.le;obtain⟨p1,p2⟩:=p;obtain⟨p3,p4,p5⟩:=p2 b2;have c2:=g3.top p4;have c3:=g3.ds;have c1:=g3.le;have d2:=g4.top c2;have d3:=g4.ds;have d1:=g4.le;have e2:=g5.top d2;have e3:=g5.ds;have e1:=g5.le;have q:∀r6:List Rf×St,r6=(if T.is r5.2.i [115,101,110,100,115]=true then A40 T 6 [] r5.2.next else ([],r5.2))->r6.1.length<=5/\r6.2.i<=T.l.length/\r6.2.ds.length<=r5.2.ds.length+2 *(T.l.length)+18:=fun r6 h=>by
  by_cases hs:T.is r5.2.i [115,101,110,100,115]=true
  ·rw[if_pos hs]at h
   have hlt:=is_lt hs;have q:=A6D T 6 [] r5.2.next (by simp);have f1:r5.2.next.i=r5.2.i+1:=rfl;have f2:r5.2.next.ds.length=r5.2.ds.length:=rfl;obtain⟨q3,q4,q5⟩:=q.2 (by omega);rw[h];exact⟨q.1,q4,by omega⟩
  ·rw[if_neg hs]at h
   rw[h];exact⟨by simp,e2,by dsimp only;omega⟩
 obtain⟨r6,h6⟩:∃r6,r6=(if T.is r5.2.i [115,101,110,100,115]=true then A40 T 6 [] r5.2.next else ([],r5.2)):=⟨_,rfl⟩;obtain⟨q1,q2,q3⟩:=q r6 h6;rw[<-h6];have hb:=(A6C T (A68 T)).1 0 r6.2;have gb:=(A1n T (A68 T)).1 0 r6.2;have h1:=gb.ds;have h2:=gb.top q2;exact⟨p1,q1,hb.1,hb.2,by omega⟩
theorem B1M (T:Src) (at_:Int) (size:Nat) (hT:T.l.length<=1048576):
  (A5o T at_ size).1.params.length<=5/\(A5o T at_ size).1.sends.length<=5/\(A5o T at_ size).1.body.length<=40/\W9 (A5o T at_ size).1.body/\(A5o T at_ size).2.ds.length<=39000000:=by
 rw[A5o];split
 ·rename_i h
  exact B1G T at_ size ⟨1,[]⟩ hT (is_lt h) rfl
 ·split
  ·rename_i h
   have hlt:=is_lt h;rw[A9E];dsimp only
   have g1:=A0R T ⟨1,[]⟩;generalize (⟨1,[]⟩:St).named T=r at g1 |-;have g2:=Z5 T r.2 [58];generalize r.2.need T [58]=s1 at g2 |-;have g3:=A2D T s1.2;generalize lab T s1.2=r2 at g3 |-;have g4:=Z5 T r2.2 [59];generalize r2.2.need T [59]=s3 at g4 |-;have a2:=g1.top hlt;have a3:=g1.ds;have a1:=g1.le;have b2:=g2.top a2;have b3:=g2.ds;have b1:=g2.le;have c2:=g3.top b2;have c3:=g3.ds;have c1:=g3.le;have d2:=g4.top c2;have d3:=g4.ds;have d1:=g4.le;dsimp only[List.length_nil]at a1 a3;exact⟨by simp,by simp,by simp,A1t,by omega⟩
  ·exact⟨by simp,by simp,by simp,A1t,by simp[St.bad]⟩
theorem A7b (src:List UInt8) (at_:Int) (h:src.length<=1048576):(item src at_).small:=by
 have hl:=A5y src;rw[A8z];have hT:(Src.mk (O6 src) src.length).l.length<=1048576:=by dsimp only;omega
 generalize Src.mk (O6 src) src.length=T at hT |-;obtain⟨h1,h2,h3,h4,h5⟩:=B1M T at_ src.length hT;rw[B50];refine⟨h1,h2,h3,h4,?_⟩
 dsimp only
 split
 ·simp[St.bad];omega
 ·omega
theorem B0v (src:List UInt8) (at_:Int):(item src at_).at_=at_:=by
 rw[A8z];show (A5o _ at_ _).1.at_=at_
 rw[A5o];split
 ·rfl
 ·split<;>rfl
theorem B4Q (src:List UInt8) (at_:Int):(item src at_).size=src.length:=by
 rw[A8z];show (A5o _ at_ _).1.size=src.length
 rw[A5o];split
 ·rfl
 ·split<;>rfl
theorem A3s {e:Ex} (h:e.small):e.args.length<=64/\A1c e.args:=by
 cases e with
 |mk k n m a f t=>rw[Ex.small]at h;exact h
theorem A3V {e a:Ex} (h:a∈e.args):SizeOf.sizeOf a<SizeOf.sizeOf e:=by
 cases e with
 |mk k n m l f t=>
  have h':a∈l:=h;have:=List.sizeOf_lt_of_mem h';simp only[Ex.mk.sizeOf_spec];omega
theorem A15 {s:Stm} (h:s.small):s.e.small/\s.thn.length<=64/\W9 s.thn/\s.els.length<=64/\W9 s.els:=by
 cases s with
 |mk k n a l o e t x f u=>rw[Stm.small]at h;exact h
theorem A4T {s:Stm}:SizeOf.sizeOf s.thn<SizeOf.sizeOf s/\SizeOf.sizeOf s.els<SizeOf.sizeOf s:=by
 cases s with
 |mk k n a l o e t x f u=>
  simp only[Stm.mk.sizeOf_spec,Stm.thn,Stm.els];omega
theorem A3U {l:List Stm}{s:Stm} (h:s∈l):SizeOf.sizeOf s<SizeOf.sizeOf l:=List.sizeOf_lt_of_mem h
end Go.Sp
namespace Go.Proofs
open Go.Proofs.Tryz
open Go.Sp
open Go.Fw
structure QLab where
 f:Nat
 n:Nat
 s:Sp.St
 da:Option Addr
 dc:Nat
section
variable {I:U0}{pb deep lc dc:Nat}{la da:Option Addr}{T:Sp.Src}
theorem A2b (s:Sp.St) (t:List UInt8) (ht:t≠ []) (hr:A2e I T la lc) (hT:Ok T) (hd:s.ds.length<1099511627776) (hi:s.i<=T.l.length):
  CalM prog 94 #[ptr pb,str t] I (QSt pb la lc T s deep da dc) (ToQ pb la lc T deep I (s.need T t).2 (.bool (s.need T t).1)):=by
 refine CalM.of fun w E hm=>enter (N:=10) func94 rfl [(0,ptr pb),(1,str t)] A1P rfl ?_
 have he:=A0U (pb:=pb) (deep:=deep) (da:=da) (dc:=dc) s t ht hr hT hi;rw[Sp.St.need];by_cases hq:T.is s.i t=true
 ·rw[if_pos hq,hq]at he
  rw[if_pos hq];repeat' (first|refine F6 ?_ hm (hc:=he);clear hm;rintro _ _ _ _ ⟨rfl,rfl,da1,dc1,rfl⟩ hle hm;try simp only[F7]at hm|refine D8 ?_|refine D5 ?_|refine D9 ?_|refine A7 ?_|refine H5 ?_|refine E8 ?_|refine A8 ?_|refine H7 ?_|refine H9 ?_|refine F8 ?_)
  exact⟨I,_,⟨rfl,rfl,da1,dc1,rfl⟩,hm⟩
 ·rw[if_neg hq,show T.is s.i t=false by simpa using hq]at he
  rw[if_neg hq];repeat' (first|refine F6 ?_ hm (hc:=he);clear hm;rintro _ _ _ _ ⟨rfl,rfl,da1,dc1,rfl⟩ hle hm;try simp only[F7]at hm|refine F6 ?_ hm (hc:=A29 s 2 hr hT hi hd);clear hm;rintro _ _ _ _ ⟨rfl,rfl,da2,dc2,rfl⟩ hle hm;try simp only[F7]at hm|refine D8 ?_|refine D5 ?_|refine D9 ?_|refine A7 ?_|refine E8 ?_|refine A8 ?_|refine F9 ?_|refine H7 ?_|refine H9 ?_|refine E9 ?_)
  exact⟨I,_,⟨rfl,rfl,da2,dc2,rfl⟩,hm⟩
theorem A6v (s:Sp.St) (hr:A2e I T la lc) (hT:Ok T) (hd:s.ds.length<1099511627776) (hi:s.i<=T.l.length):
  CalM prog 93 #[ptr pb] I (QSt pb la lc T s deep da dc) (ToQ pb la lc T deep I (s.named T).2 (str (s.named T).1)):=by
 refine CalM.of fun w E hm=>enter (N:=55) func93 rfl [(0,ptr pb)] A0v rfl ?_
 have h1:=hT.at_ s.i;have h2:=hT.size;have h3:=hT.len;rw[Sp.St.named];have hn:=A61 (T.tok s.i).text (by omega);by_cases hname:Sp.name (T.tok s.i).text=true
 ·rw[if_pos hname]
  rw[hname]at hn;have hlt:=A2J (A8B hname);repeat' (first|refine P9 ?_ hm (hc:=A1X s hr);clear hm;intro _ hm|refine X6 (hc:=by exact hn _) (k:=?_);rintro _ _ ⟨rfl,hk⟩;replace hm:=hm.kept0 hk|refine H8 ?_ hm|refine J6 hm (k:=?_);clear hm;intro _ hm;try simp only[F7]at hm|refine D8 ?_|refine D5 ?_|refine Y7 ?_|refine E5 ?_|refine Q4 ?_|refine C9 ?_|refine D9 ?_|refine A7 ?_|refine E8 ?_|refine A8 ?_|refine F9 ?_|refine H7 ?_|refine H9 ?_|refine E9 ?_)
  exact⟨I,_,⟨rfl,rfl,da,dc,rfl⟩,hm⟩
 ·have hname':Sp.name (T.tok s.i).text=false:=by simpa using hname
  rw[if_neg hname];rw[hname']at hn;by_cases hk:(T.tok s.i).kind=1
  ·rw[if_pos hk]
   have hlt:=A8n (T:=T) (i:=s.i) (by omega);have hbi:(s.bad T 7).i=s.i:=rfl;have htk:=A24 hlt;repeat' (first|refine P9 ?_ hm (hc:=A1X s hr);clear hm;intro _ hm|refine X6 (hc:=by exact hn _) (k:=?_);rintro _ _ ⟨rfl,hk2⟩;replace hm:=hm.kept0 hk2|refine A0h ?_ (hr:=by exact hr) (he:=by intro _;rfl) (hz:=by exact htk);intro b1 o1 hp1|refine F6 ?_ hm (hc:=A29 s 7 hr hT hi hd);clear hm;rintro _ _ _ _ ⟨rfl,rfl,da2,dc2,rfl⟩ hle hm;try simp only[F7]at hm|refine H8 ?_ hm|refine J8 ?_ hm|refine U1 ?_ hm|refine J6 hm (k:=?_);clear hm;intro _ hm;try simp only[F7]at hm|refine D8 ?_|refine D5 ?_|refine Y7 ?_|refine E5 ?_|refine Q4 ?_|refine C9 ?_|refine D9 ?_|refine A7 ?_|refine H5 ?_|refine E8 ?_|refine A8 ?_|refine H7 ?_|refine H9 ?_|refine L6 ?_|refine U4 ?_;intro _ hkq;replace hm:=hm.kept0 hkq;clear hkq|refine F8 ?_|(refine D6 (ht:=fun _=>?_) (hf:=fun _=>?_)<;>try first|contradiction|omega)|refine P5 ?_|refine P7 ?_|refine A0I ?_|refine A44 ?_|refine J3 ?_|refine J5 ?_|refine G6 ?_|(refine O3 (fun _=>?_) (h1:=fun _=>?_)<;>try first|contradiction|omega))
   all_goals try omega
   exact⟨I,_,⟨rfl,rfl,da2,dc2,rfl⟩,hm⟩
  ·rw[if_neg hk]
   by_cases hlt:s.i<T.l.length
   ·have htk:=A24 hlt
    repeat' (first|refine P9 ?_ hm (hc:=A1X s hr);clear hm;intro _ hm|refine X6 (hc:=by exact hn _) (k:=?_);rintro _ _ ⟨rfl,hk2⟩;replace hm:=hm.kept0 hk2|refine A0h ?_ (hr:=by exact hr) (he:=by intro _;rfl) (hz:=by exact htk);intro b1 o1 hp1|refine F6 ?_ hm (hc:=A29 s 2 hr hT hi hd);clear hm;rintro _ _ _ _ ⟨rfl,rfl,da2,dc2,rfl⟩ hle hm;try simp only[F7]at hm|refine J8 ?_ hm|refine U1 ?_ hm|refine D8 ?_|refine D5 ?_|refine Y7 ?_|refine D9 ?_|refine A7 ?_|refine H5 ?_|refine E8 ?_|refine A8 ?_|refine F9 ?_|refine H7 ?_|refine H9 ?_|refine L6 ?_|refine U4 ?_;intro _ hkq;replace hm:=hm.kept0 hkq;clear hkq|refine F8 ?_|(refine D6 (ht:=fun _=>?_) (hf:=fun _=>?_)<;>try first|contradiction|omega)|refine P5 ?_|refine P7 ?_|refine A0I ?_|refine A44 ?_|refine J3 ?_|refine J5 ?_|refine G6 ?_|(refine O3 (fun _=>?_) (h1:=fun _=>?_)<;>try first|contradiction|omega))
    all_goals try omega
    exact⟨I,_,⟨rfl,rfl,da2,dc2,rfl⟩,hm⟩
   ·skip
    repeat' (first|refine P9 ?_ hm (hc:=A1X s hr);clear hm;intro _ hm|refine X6 (hc:=by exact hn _) (k:=?_);rintro _ _ ⟨rfl,hk2⟩;replace hm:=hm.kept0 hk2|refine F6 ?_ hm (hc:=A29 s 2 hr hT hi hd);clear hm;rintro _ _ _ _ ⟨rfl,rfl,da2,dc2,rfl⟩ hle hm;try simp only[F7]at hm|refine J8 ?_ hm|refine D8 ?_|refine D5 ?_|refine Y7 ?_|refine D9 ?_|refine A7 ?_|refine H5 ?_|refine E8 ?_|refine A8 ?_|refine F9 ?_|refine H7 ?_|refine H9 ?_|refine L6 ?_|refine U4 ?_;intro _ hkq;replace hm:=hm.kept0 hkq;clear hkq|refine F8 ?_|refine E9 ?_|refine P5 ?_|refine V9 ?_|refine A0I ?_|refine J3 ?_|refine J5 ?_|refine G6 ?_|refine A05 ?_|(refine O3 (fun _=>?_) (h1:=fun _=>?_)<;>try first|contradiction|omega))
    all_goals try omega
    exact⟨I,_,⟨rfl,rfl,da2,dc2,rfl⟩,hm⟩
theorem A8C (s:Sp.St) (hr:A2e I T la lc) (hT:Ok T) (hi:s.i<=T.l.length) (hd:s.ds.length+2 *(T.l.length-s.i)+2<=1099511627776):
  CalM prog 95 #[ptr pb] I (QSt pb la lc T s deep da dc) (ToQ pb la lc T deep I (Sp.lab T s).2 (nt (Sp.lab T s).1)):=by
 refine CalM.of fun w E hm=>enter (N:=61) func95 rfl [(0,ptr pb)] A0v rfl ?_
 have h2:=hT.size;have h3:=hT.len;have hn:=A2b (pb:=pb) (deep:=deep) (da:=da) (dc:=dc) s [123] (by simp) hr hT (by omega) hi;rw[Sp.lab];rw[Sp.St.need]at hn;by_cases hq:T.is s.i [123]=true
 case neg=>
  rw[if_neg hq];rw[if_neg hq]at hn;repeat' (first|refine F6 ?_ hm (hc:=hn);clear hm;rintro _ _ _ _ ⟨rfl,rfl,da',dc',rfl⟩ hle hm;try simp only[F7]at hm|refine D8 ?_|refine D5 ?_|refine Y7 ?_|refine D9 ?_|refine A7 ?_|refine H5 ?_|refine E8 ?_|refine A8 ?_|refine H7 ?_|refine H9 ?_|refine F8 ?_)
  exact⟨I,_,⟨rfl,rfl,da',dc',rfl⟩,hm⟩
 rw[if_pos hq];rw[if_pos hq]at hn;have hlt:=Sp.is_lt hq;repeat' (first|refine F6 ?_ hm (hc:=hn);clear hm;rintro _ _ _ _ ⟨rfl,rfl,da',dc',rfl⟩ hle hm;try simp only[F7]at hm|refine D8 ?_|refine D5 ?_|refine Y7 ?_|refine D9 ?_|refine A7 ?_|refine E8 ?_|refine A8 ?_|refine F5 ?_|refine F9 ?_|refine E9 ?_)
 refine X7 (fun x:QLab=> [(0,ptr pb),(3,nt x.n)])
  (fun x w'=>Mem E I (QSt pb la lc T x.s deep x.da x.dc) w'/\A9q T x.f x.n x.s=A9q T (T.l.length+1) 0 s.next/\T.l.length-x.s.i<x.f/\x.s.i<=T.l.length/\x.n<256/\x.s.ds.length+2 *(T.l.length-x.s.i)+1<=1099511627776)
  (fun x=>T.l.length-x.s.i) ⟨T.l.length+1,0,s.next,da',dc'⟩ (by exact⟨rfl,rfl,trivial⟩) ⟨hm,rfl,by dsimp only;omega,by dsimp only;rw[N8];omega,by simp,by dsimp only;rw[N8,A0o];omega⟩ ?_
 clear hm hn;rintro⟨f,n,s2,da2,dc2⟩ w2 ⟨hm,hL,hf,hi2,hn2,hr2⟩;dsimp only at hm hL hf hi2 hn2 hr2 |-;obtain⟨f,rfl⟩:∃f',f=f'+1:=⟨f-1,by omega⟩;rw[A9q]at hL;have hqe:=A0U (pb:=pb) (deep:=deep) (da:=da2) (dc:=dc2) s2 [125] (by simp) hr hT hi2;by_cases hend:T.is s2.i [125]=true
 ·rw[if_pos hend]at hL
  rw[<-hL];rw[if_pos hend,hend]at hqe;have hlt2:=Sp.is_lt hend;repeat' (first|refine F6 ?_ hm (hc:=hqe);clear hm;rintro _ _ _ _ ⟨rfl,rfl,da3,dc3,rfl⟩ hle hm;try simp only[F7]at hm|refine D8 ?_|refine D5 ?_|refine Y7 ?_|refine D9 ?_|refine A7 ?_|refine G7 ?_|refine G5 ?_|refine E8 ?_|refine A8 ?_|refine O7 ?_|refine H7 ?_|refine H9 ?_|refine E9 ?_)
  exact⟨I,_,⟨rfl,rfl,da3,dc3,rfl⟩,hm⟩
 have hend':T.is s2.i [125]=false:=by simpa using hend
 rw[if_neg hend]at hL;rw[if_neg hend,hend']at hqe;dsimp only at hL;have h1:=hT.at_ s2.i;have htg:B5m (T.tok s2.i).text=decide ((T.tok s2.i).text.length=1/\97<=((T.tok s2.i).text.getD (0:Int).toNat 0).toNat/\((T.tok s2.i).text.getD (0:Int).toNat 0).toNat<=104):=by
  rw[B5m,Bool.decide_and,Bool.decide_and];rfl
 by_cases hgood:B5m (T.tok s2.i).text=true
 case neg=>
  have hgood':B5m (T.tok s2.i).text=false:=by simpa using hgood
  rw[hgood']at hL;simp only[Bool.not_false,if_true]at hL;rw[<-hL];rw[htg,decide_eq_false_iff_not]at hgood';repeat' (first|refine F6 ?_ hm (hc:=hqe);clear hm;rintro _ _ _ _ ⟨rfl,rfl,da4,dc4,rfl⟩ hle hm;try simp only[F7]at hm|refine P9 ?_ hm (hc:=A1X s2 hr);clear hm;intro _ hm|refine F6 ?_ hm (hc:=A29 s2 2 hr hT hi2 (by omega));clear hm;rintro _ _ _ _ ⟨rfl,rfl,da3,dc3,rfl⟩ hle hm;try simp only[F7]at hm|refine D8 ?_|refine D5 ?_|refine N9 ?_|refine J9 ?_|refine O0 ?_|refine A5g ?_|refine A1a ?_|refine X9 ?_|refine Y7 ?_|refine A03 ?_|refine A0p ?_|(refine O5 (h1:=fun _=>?_) (h0:=fun _=>?_)<;>try first|contradiction|omega)|refine D9 ?_|refine A7 ?_|refine H5 ?_|refine L8 ?_|refine E8 ?_|refine A8 ?_|refine F5 ?_|refine F9 ?_|refine H7 ?_|refine H9 ?_|refine F8 ?_|(refine D6 (ht:=fun _=>?_) (hf:=fun _=>?_)<;>try first|contradiction|omega))
  all_goals first
   |exact⟨I,_,⟨rfl,rfl,da3,dc3,rfl⟩,hm⟩
   |(exfalso;omega)
 rw[hgood]at hL;have hlt2:s2.i<T.l.length:=A2J (by intro e;rw[e]at hgood;revert hgood;decide);rw[htg,decide_eq_true_eq]at hgood;have hce:(T.tok s2.i).text.getD (0:Int).toNat 0=(T.tok s2.i).text.getD 0 0:=rfl;rw[hce]at hgood;generalize hcc:(T.tok s2.i).text.getD 0 0=c at hgood hL hce;obtain⟨q,hqq⟩:∃q,q=c.toNat-97:=⟨_,rfl⟩;rw[<-hqq]at hL;have hq8:q<8:=by omega
 obtain⟨hfd,hb1,hor,hor2⟩:=B9n n hn2 q hq8;obtain⟨hp1,hp2⟩:=B9m q hq8;have hbq:((c.toNat:Int)-97).toNat=q:=by omega
 have hdl:n / 2 ^ q<=n:=Nat.div_le_self _ _;simp only[Bool.not_true,A4I,if_false]at hL;generalize n / 2 ^ q=m at hfd hb1 hdl;obtain⟨s3,hs3⟩:∃s3,s3=(if Sp.bit n q=true then s2.bad T 7 else s2):=⟨_,rfl⟩;rw[<-hs3]at hL;have hs3i:s3.i=s2.i:=by rw[hs3];split<;>rfl
 have hs3d:s3.ds.length<=s2.ds.length+1:=by rw[hs3];split<;>simp[Sp.St.bad]
 rw[<-hor]at hL;have hni:s3.next.i=s3.i+1:=rfl;have hnd:s3.next.ds.length=s3.ds.length:=rfl;have hnn:s3.next.next.i=s3.i+1+1:=rfl;have hnnd:s3.next.next.ds.length=s3.ds.length:=rfl;have hmc:=fun da dc=>A2b (pb:=pb) (deep:=deep) (da:=da) (dc:=dc) s3.next [44] (by simp) hr hT (by omega) (by omega)
 rw[Sp.St.need]at hmc;have hpk:=fun da dc=>A1X (pb:=pb) (deep:=deep) (da:=da) (dc:=dc) s3.next hr
 have tel:=fun da dc=>A29 (pb:=pb) (deep:=deep) (da:=da) (dc:=dc) s2 7 hr hT hi2 (by omega)
 have hor':((n:Int).toNat|||(((2 ^ q:Nat):Int)).toNat)=(n|||2 ^ q):=rfl;generalize 2 ^ q=pq at hp1 hp2 hor2 hor hL hor';generalize n|||pq=n1 at hor2 hor hL hor'
 repeat' (first|refine A7m 9 (fun _:QLab=> [(0,ptr pb),(3,nt n),(4,str (T.tok s2.i).text)]) (fun x w'=>Mem E I (QSt pb la lc T s3 deep x.da x.dc) w') ?_ ?_|refine F6 ?_ hm (hc:=hqe);clear hm;rintro _ _ _ _ ⟨rfl,rfl,da4,dc4,rfl⟩ hle hm;try simp only[F7]at hm|refine P9 (d:=12) ?_ hm (hc:=A1X s2 hr);clear hm;intro _ hm|refine A03 ?_;rw[hce]|refine D8 ?_|refine D5 ?_|refine J9 ?_|refine O0 ?_|refine A5g ?_|refine A1a ?_|refine X9 ?_|refine Y7 ?_|refine A5u ?_|(refine O5 (h1:=fun _=>?_) (h0:=fun _=>?_)<;>try first|contradiction|omega)|refine D9 ?_|refine A7 ?_|refine E8 ?_|refine A8 ?_|refine F5 ?_|refine F9 ?_|refine F8 ?_|(refine D6 (ht:=fun _=>?_) (hf:=fun _=>?_)<;>try first|contradiction|omega))
 all_goals try omega
 ·cases hb:Sp.bit n q with
  |true=>
   rw[hb]at hb1 hs3;rw[if_pos rfl]at hs3;subst hs3;repeat' (first|refine F6 ?_ hm (hc:=tel _ _);clear hm;rintro _ _ _ _ ⟨rfl,rfl,da3,dc3,rfl⟩ hle hm;try simp only[F7]at hm|refine B6k (k:=?_);rw[hbq,hfd]|refine B3i ?_;rw[show ((m:Int).toNat &&& (1:Int).toNat)=1 from hb1]|refine D8 ?_|refine Q5 ?_|refine D9 ?_|refine A7 ?_|refine A8 ?_|refine F8 ?_)
   all_goals try omega
   exact A0L (⟨0,0,s2,da3,dc3⟩:QLab) (by exact⟨rfl,rfl,rfl,trivial⟩) hm
  |false=>
   rw[hb]at hb1 hs3;rw[if_neg (by simp)]at hs3;subst hs3;repeat' (first|refine B6k (k:=?_);rw[hbq,hfd]|refine B3i ?_;rw[show ((m:Int).toNat &&& (1:Int).toNat)=0 from hb1]|refine Q5 ?_|refine D9 ?_|refine A7 ?_|refine F9 ?_|refine E9 ?_)
   all_goals try omega
   exact A0L (⟨0,0,s3,da4,dc4⟩:QLab) (by exact⟨rfl,rfl,rfl,trivial⟩) hm
 clear hm hqe tel;rintro⟨_,_,_,da5,dc5⟩ w3 hm;dsimp only at hm |-;by_cases e1:T.is s3.next.i [125]=true
 ·rw[if_pos e1]at hL
  have e1t:(T.tok s3.next.i).text= [125]:=by simp only[Sp.Src.is,Q7,decide_eq_true_eq]at e1;exact e1.2
  have hlt5:=Sp.is_lt e1;rw[e1t]at hpk;repeat' (first|refine P9 ?_ hm (hc:=hpk _ _);clear hm;intro _ hm|refine A03 ?_;rw[hce]|refine B0H (h':=by rw[hbq,hp1];omega) (k:=?_);rw[hbq,hp1]|refine B17 ?_;rw[hor']|refine H8 ?_ hm|refine J6 hm (k:=?_);clear hm;intro _ hm;try simp only[F7]at hm|refine D8 ?_|refine D5 ?_|refine J9 ?_|refine V4 ?_|refine E5 ?_|refine Q4 ?_|refine A5u ?_|refine C9 ?_|refine A0p ?_|refine D9 ?_|refine A7 ?_|refine D7 ?_|refine E8 ?_|refine A8 ?_|refine F9 ?_|refine E9 ?_)
  all_goals try first|omega|contradiction
  exact N7 (⟨f,n1,s3.next,da5,dc5⟩:QLab) (by exact⟨rfl,rfl,trivial⟩) ⟨hm,hL,by dsimp only;omega,by dsimp only;omega,hor2,by dsimp only;omega⟩ (by dsimp only;omega)
 rw[if_neg e1]at hL;by_cases e2:T.is s3.next.i [44]=true
 ·rw[if_pos e2]at hL hmc
  have e1t:(T.tok s3.next.i).text= [44]:=by simp only[Sp.Src.is,Q7,decide_eq_true_eq]at e2;exact e2.2
  have hlt5:=Sp.is_lt e2;rw[e1t]at hpk;repeat' (first|refine P9 ?_ hm (hc:=hpk _ _);clear hm;intro _ hm|refine F6 ?_ hm (hc:=hmc _ _);clear hm;rintro _ _ _ _ ⟨rfl,rfl,da6,dc6,rfl⟩ hle hm;try simp only[F7]at hm|refine A03 ?_;rw[hce]|refine B0H (h':=by rw[hbq,hp1];omega) (k:=?_);rw[hbq,hp1]|refine B17 ?_;rw[hor']|refine H8 ?_ hm|refine J6 hm (k:=?_);clear hm;intro _ hm;try simp only[F7]at hm|refine D8 ?_|refine D5 ?_|refine N9 ?_|refine V4 ?_|refine Y7 ?_|refine E5 ?_|refine Q4 ?_|refine A5u ?_|refine C9 ?_|refine D9 ?_|refine A7 ?_|refine D7 ?_|refine E8 ?_|refine A8 ?_|refine F9 ?_|refine E9 ?_)
  all_goals try first|omega|contradiction
  exact N7 (⟨f,n1,s3.next.next,da6,dc6⟩:QLab) (by exact⟨rfl,rfl,trivial⟩) ⟨hm,hL,by dsimp only;omega,by dsimp only;omega,hor2,by dsimp only;omega⟩ (by dsimp only;omega)
 rw[if_neg e2]at hL hmc;have e1t:s3.next.i<T.l.length->(T.tok s3.next.i).text≠ [125]:=fun h e=>e1 (by simp[Sp.Src.is,h,e])
 rw[<-hL];by_cases hlt6:s3.next.i<T.l.length
 ·have e1t:=e1t hlt6
  repeat' (first|refine P9 ?_ hm (hc:=hpk _ _);clear hm;intro _ hm|refine F6 ?_ hm (hc:=hmc _ _);clear hm;rintro _ _ _ _ ⟨rfl,rfl,da6,dc6,rfl⟩ hle hm;try simp only[F7]at hm|refine A03 ?_;rw[hce]|refine B0H (h':=by rw[hbq,hp1];omega) (k:=?_);rw[hbq,hp1]|refine B17 ?_;rw[hor']|refine H8 ?_ hm|refine J6 hm (k:=?_);clear hm;intro _ hm;try simp only[F7]at hm|refine D8 ?_|refine D5 ?_|refine N9 ?_|refine V4 ?_|refine Y7 ?_|refine E5 ?_|refine Q4 ?_|refine A5u ?_|refine C9 ?_|(refine O5 (h1:=fun _=>?_) (h0:=fun _=>?_)<;>try first|contradiction|omega)|refine D9 ?_|refine A7 ?_|refine H5 ?_|refine L8 ?_|refine E8 ?_|refine A8 ?_|refine H7 ?_|refine H9 ?_|refine F8 ?_)
  all_goals try first|omega|contradiction
  exact⟨I,_,⟨rfl,rfl,da6,dc6,rfl⟩,hm⟩
 ·rw[A4v (by omega:T.l.length<=s3.next.i)]at hpk
  repeat' (first|refine P9 ?_ hm (hc:=hpk _ _);clear hm;intro _ hm|refine F6 ?_ hm (hc:=hmc _ _);clear hm;rintro _ _ _ _ ⟨rfl,rfl,da6,dc6,rfl⟩ hle hm;try simp only[F7]at hm|refine A03 ?_;rw[hce]|refine B0H (h':=by rw[hbq,hp1];omega) (k:=?_);rw[hbq,hp1]|refine B17 ?_;rw[hor']|refine H8 ?_ hm|refine J6 hm (k:=?_);clear hm;intro _ hm;try simp only[F7]at hm|refine D8 ?_|refine D5 ?_|refine N9 ?_|refine V4 ?_|refine Y7 ?_|refine E5 ?_|refine Q4 ?_|refine A5u ?_|refine C9 ?_|refine D9 ?_|refine A7 ?_|refine H5 ?_|refine L8 ?_|refine E8 ?_|refine A8 ?_|refine H7 ?_|refine H9 ?_|refine F8 ?_)
  all_goals try first|omega|contradiction
  exact⟨I,_,⟨rfl,rfl,da6,dc6,rfl⟩,hm⟩
theorem B7k (t:List UInt8) (w:World):Cal prog 184 #[str t] w fun v w'=>v=nt (A2X t)/\w'=w:=by
 refine enter (N:=12) func184 rfl [(0,str t)] A0v rfl ?_
 rw[A2X];by_cases h1:t= [61]
 ·subst h1
  repeat' (first|refine D8 ?_|refine D5 ?_|refine A0c ?_|refine D9 ?_|refine A7 ?_|refine H5 ?_|refine L8 ?_|refine E8 ?_|refine A8 ?_|refine F5 ?_|refine F9 ?_|refine H7 ?_|refine H9 ?_|refine F8 ?_)
  exact⟨rfl,rfl⟩
 by_cases h2:t= [60]
 ·subst h2
  repeat' (first|refine D8 ?_|refine D5 ?_|refine A0c ?_|refine D9 ?_|refine A7 ?_|refine H5 ?_|refine L8 ?_|refine E8 ?_|refine A8 ?_|refine F5 ?_|refine H7 ?_|refine H9 ?_|refine F8 ?_|refine E9 ?_)
  exact⟨rfl,rfl⟩
 by_cases h3:t= [43]
 ·subst h3
  repeat' (first|refine D8 ?_|refine D5 ?_|refine A0c ?_|refine D9 ?_|refine A7 ?_|refine H5 ?_|refine L8 ?_|refine E8 ?_|refine A8 ?_|refine F5 ?_|refine F9 ?_|refine H7 ?_|refine H9 ?_|refine F8 ?_|refine E9 ?_)
  exact⟨rfl,rfl⟩
 by_cases h4:t= [45]
 ·subst h4
  repeat' (first|refine D8 ?_|refine D5 ?_|refine A0c ?_|refine D9 ?_|refine A7 ?_|refine H5 ?_|refine L8 ?_|refine E8 ?_|refine A8 ?_|refine F5 ?_|refine H7 ?_|refine H9 ?_|refine F8 ?_|refine E9 ?_)
  exact⟨rfl,rfl⟩
 by_cases h5:t= [42]
 ·subst h5
  repeat' (first|refine D8 ?_|refine D5 ?_|refine A0c ?_|refine D9 ?_|refine A7 ?_|refine H5 ?_|refine L8 ?_|refine E8 ?_|refine A8 ?_|refine F5 ?_|refine H7 ?_|refine H9 ?_|refine F8 ?_|refine E9 ?_)
  exact⟨rfl,rfl⟩
 rw[if_neg (by simp[h1,h2]),if_neg (by simp[h3,h4]),if_neg h5];repeat' (first|refine D8 ?_|refine D5 ?_|refine A0c ?_|refine D9 ?_|refine A7 ?_|refine D7 ?_|refine E8 ?_|refine A8 ?_|refine F5 ?_|refine F9 ?_|refine H7 ?_|refine H9 ?_|(refine D6 (ht:=fun _=>?_) (hf:=fun _=>?_)<;>try first|contradiction|omega))
 all_goals first|exact⟨rfl,rfl⟩|(exfalso;simp_all;done)
abbrev A8F (pb:Nat) (la:Option Addr) (lc:Nat) (T:Sp.Src) (deep:Nat) (r:Sp.Ex×Sp.St):Value->U0->List HItem->Prop:=
 fun v I' H'=>(∃ea ec xs,v=.agg [nt r.1.kind,str r.1.name,nt r.1.n,.slice ea r.1.args.length ec,nt r.1.fr,nt r.1.to].toArray/\RowI I' 107 6 (.slice ea r.1.args.length ec) r.1.args.length xs/\V7 I' r.1.args xs)/\
  ∃da dc,H'=QSt pb la lc T r.2 deep da dc
theorem B3l (s:Sp.St) (e:Nat) (hr:A2e I T la lc) (hT:Ok T) (hi:s.i<=T.l.length) (hd:s.ds.length<1099511627776):
  CalM prog 195 #[ptr pb,nt e] I (QSt pb la lc T s deep da dc) (A8F pb la lc T deep (A6V T s e)):=by
 refine CalM.of fun w E hm=>enter (N:=13) func195 rfl [(0,ptr pb),(1,nt e)] A1P rfl ?_
 repeat' (first|refine F6 ?_ hm (hc:=A29 s e hr hT hi hd);clear hm;rintro _ _ _ _ ⟨rfl,rfl,da',dc',rfl⟩ hle hm;try simp only[F7]at hm|refine P9 ?_ hm (hc:=A0Z (s.bad T e) hr);clear hm;intro _ hm|refine V6 (d:=4) ?_ hm;clear hm;intro b4 _ hm|refine O4 ?_ hm;clear hm;intro _ hm;try simp only[F7]at hm|refine V3 ?_ hm|refine D8 ?_|refine X4 ?_|refine D9 ?_|refine A7 ?_|refine E8 ?_|refine A8 ?_|refine H7 ?_)
 exact⟨I,_,⟨⟨none,0,[],rfl,A1K _ _ _ _ _,.nil⟩,da',dc',rfl⟩,hm.left (H:= [_,_])⟩
end
abbrev A0G (e:Sp.Ex) (ea:Option Addr) (ec:Nat):List Value:= [nt e.kind,str e.name,nt e.n,.slice ea e.args.length ec,nt e.fr,nt e.to]
abbrev ex0:List Value:= [.int .i64 0,str [],.int .i64 0,.slice none 0 0,.int .i64 0,.int .i64 0]
theorem A4A {I:U0}{e:Sp.Ex}{ea:Option Addr}{ec:Nat}{xs:List Value} (h1:RowI I 107 6 (.slice ea e.args.length ec) e.args.length xs) (h2:V7 I e.args xs):A49 I e (A0G e ea ec):=by
 cases e with
 |mk k nm n args f t=>exact .of h1 h2
theorem B9i {I:U0}{e1 e2:Sp.Ex}{c1 c2:List Value} (h1:A49 I e1 c1) (h2:A49 I e2 c2):V7 I [e1,e2] (c1++(c2++ [])):=by
 rw[V7];exact⟨c1,_,rfl,h1,by rw[V7];exact⟨c2,[],rfl,h2,.nil⟩⟩
theorem Ok.digs {T:Sp.Src} (h:Ok T) {i:Nat} (hk:(T.tok i).kind=2):∀c∈(T.tok i).text,48<=c.toNat/\c.toNat<=57:=by
 rcases X3 i T.l.length with h1|h1
 ·rw[Sp.Src.tok,U2,G9 h1]at hk |-
  exact h.dig _ (Q8 h1) hk
 ·rw[A4v h1]at hk;cases hk
theorem A1C (I:U0):RowI I 109 15 (.slice none ([]:List Sp.Stm).length 0) ([]:List Sp.Stm).length []:=A1K _ _ _ _ _
theorem A7i {I:U0}{s:Sp.Stm}{ea a1 a2:Option Addr}{ec c1 c2:Nat}{ex xs1 xs2:List Value}
  (h2:RowI I 107 6 (.slice ea s.e.args.length ec) s.e.args.length ex) (h3:V7 I s.e.args ex)
  (h4:RowI I 109 15 (.slice a1 s.thn.length c1) s.thn.length xs1) (h5:U8 I s.thn xs1) (h6:RowI I 109 15 (.slice a2 s.els.length c2) s.els.length xs2) (h7:U8 I s.els xs2):
  A4g I s (A2M s.kind s.name s.at_ s.label s.opn s.e ea ec (.slice a1 s.thn.length c1) (.slice a2 s.els.length c2) s.fr s.to):=by
 cases s with
 |mk k nm a lb o e thn els f t=>exact .of h2 h3 h4 h5 h6 h7
abbrev B2q (n:Nat) (a:Option Addr) (cp:Nat) (xs:List Value):HItem:=.row (.slice a n cp) 109 15 n xs
abbrev B2I (n:Nat) (a:Option Addr) (cp:Nat) (xs:List Value):HItem:=.row (.slice a n cp) 107 6 n xs
abbrev A21:Value:=.slice none 0 0
abbrev B0P (l:List Sp.Par) (n:Nat) (a:Option Addr) (c:Nat):HItem:=.row (.slice a n c) 65 3 n (l.flatMap A2r)
abbrev B0X (l:List Sp.Rf) (n:Nat) (a:Option Addr) (c:Nat):HItem:=.row (.slice a n c) 62 2 n (l.flatMap A2f)
abbrev B7V (err:Nat) (its:List Sp.Itm):Value->U0->List HItem->Prop:=fun v I' H'=> ∃a cp xs,v=.tuple #[.agg [.slice a its.length cp].toArray,nt err]/\RowI I' 60 10 (.slice a its.length cp) its.length xs/\A3c I' its xs/\H'= []
abbrev A9P (k:Nat) (a:Option Addr) (cp:Nat) (xs:List Value):HItem:=.row (.slice a k cp) 60 10 k xs
structure ItX where
 I:U0
 da:Option Addr
 dc:Nat
 ap:Option Addr
 cp:Nat
 as_:Option Addr
 cs:Nat
 ab:Option Addr
 cb:Nat
 xb:List Value
abbrev itV (q:Sp.Itm) (x:ItX):List Value:=A0P q.kind q.name q.label (.slice x.ap q.params.length x.cp) (.slice x.as_ q.sends.length x.cs) (.slice x.ab q.body.length x.cb) q.at_ q.size q.mark A21
abbrev B8O (it:Sp.Itm):Value->U0->List HItem->Prop:=fun v I' H'=> ∃cs,v=.agg cs.toArray/\A5a I' it cs/\H'= []
end Go.Proofs
namespace Go.Proofs
open Go.Proofs.Tryz
open Go.Sp
open Go Go.Fw
instance :TyMap prog 77 3 4:=⟨by kernel_rfl⟩
instance :TyMap prog 113 3 3:=⟨by kernel_rfl⟩
instance :TyMap prog 142 9 60:=⟨by kernel_rfl⟩
end Go.Proofs
namespace Go.Proofs
open Go.Proofs.Tryz
open Go.Sp
open Go.Fw
theorem _root_.Go.Fw.RowI.none {I:U0}{ty:TypeId}{sz n cp:Nat}{us:List Value} (h:RowI I ty sz (.slice none n cp) n us):n=0:=by
 obtain⟨_,a,cap,e1,_,e3⟩:=h;rcases A3P n with h0|h0
 ·exact h0
 ·obtain⟨b,off,c,fr,f1,_⟩:=e3 h0
  injection e1 with e1
  rw[f1]at e1;cases e1
abbrev B5v (ty:TypeId) (sz n:Nat) (us:List Value):Value->U0->List HItem->Prop:=fun v I' H'=>H'= []/\∃a cp,v=.slice a n cp/\RowI I' ty sz (.slice a n cp) n us
theorem B6n (I:U0) (a:Option Addr) (n cp:Nat) (us:List Value) (hr:RowI I 65 3 (.slice a n cp) n us) (h1:us.all (·.oneCell')=true) (hn:n<=1099511627776):
  CalM prog 70 #[.slice a n cp] I [] (B5v 65 3 n us):=by
 refine CalM.of fun w E hm=>enter (N:=8) func70 rfl [(0,.slice a n cp)] A0v rfl ?_
 cases a with
 |none=>
  have h0:n=0:=hr.none;subst h0;have hu:us= []:=A1Y (by have:=hr.len;simpa using this);subst hu;repeat' (first|refine A1k ?_|refine D8 ?_|refine D5 ?_|refine D9 ?_|refine A7 ?_|refine H5 ?_|refine E8 ?_|refine A8 ?_|refine H7 ?_|refine H9 ?_|refine F8 ?_)
  exact⟨I,[],⟨rfl,none,0,rfl,A1K _ _ _ _ _⟩,hm⟩
 |some ad=>
  repeat' (first|refine A1k ?_|refine A5Y ?_ hm;clear hm;intro bb _ hm|refine A6M ?_ hm (hr:=hr) (h1:=h1);clear hm;intro a2 cp2 _ hm;try simp only[F7]at hm|refine D8 ?_|refine D5 ?_|refine D9 ?_|refine A7 ?_|refine E8 ?_|refine A8 ?_|refine F9 ?_|refine H7 ?_|refine H9 ?_|refine E9 ?_)
  simp only[Y6]at hm |-;obtain⟨I3,hle3,hm3,hrow3⟩:=(hm.front 0 rfl).freeze;exact⟨I3,[],⟨rfl,a2,cp2,rfl,hrow3⟩,hm3.left (H:= [])⟩
theorem B2f (I:U0) (a:Option Addr) (n cp:Nat) (us:List Value) (hr:RowI I 62 2 (.slice a n cp) n us) (h1:us.all (·.oneCell')=true) (hn:n<=1099511627776):
  CalM prog 71 #[.slice a n cp] I [] (B5v 62 2 n us):=by
 refine CalM.of fun w E hm=>enter (N:=8) func71 rfl [(0,.slice a n cp)] A0v rfl ?_
 cases a with
 |none=>
  have h0:n=0:=hr.none;subst h0;have hu:us= []:=A1Y (by have:=hr.len;simpa using this);subst hu;repeat' (first|refine A1k ?_|refine D8 ?_|refine D5 ?_|refine D9 ?_|refine A7 ?_|refine H5 ?_|refine E8 ?_|refine A8 ?_|refine H7 ?_|refine H9 ?_|refine F8 ?_)
  exact⟨I,[],⟨rfl,none,0,rfl,A1K _ _ _ _ _⟩,hm⟩
 |some ad=>
  repeat' (first|refine A1k ?_|refine A5Y ?_ hm;clear hm;intro bb _ hm|refine A6M ?_ hm (hr:=hr) (h1:=h1);clear hm;intro a2 cp2 _ hm;try simp only[F7]at hm|refine D8 ?_|refine D5 ?_|refine D9 ?_|refine A7 ?_|refine E8 ?_|refine A8 ?_|refine F9 ?_|refine H7 ?_|refine H9 ?_|refine E9 ?_)
  simp only[Y6]at hm |-;obtain⟨I3,hle3,hm3,hrow3⟩:=(hm.front 0 rfl).freeze;exact⟨I3,[],⟨rfl,a2,cp2,rfl,hrow3⟩,hm3.left (H:= [])⟩
theorem B2e (I:U0) (a:Option Addr) (n cp:Nat) (us:List Value) (hr:RowI I 92 4 (.slice a n cp) n us) (h1:us.all (·.oneCell')=true) (hn:n<=1099511627776):
  CalM prog 72 #[.slice a n cp] I [] (B5v 92 4 n us):=by
 refine CalM.of fun w E hm=>enter (N:=8) func72 rfl [(0,.slice a n cp)] A0v rfl ?_
 cases a with
 |none=>
  have h0:n=0:=hr.none;subst h0;have hu:us= []:=A1Y (by have:=hr.len;simpa using this);subst hu;repeat' (first|refine A1k ?_|refine D8 ?_|refine D5 ?_|refine D9 ?_|refine A7 ?_|refine H5 ?_|refine E8 ?_|refine A8 ?_|refine H7 ?_|refine H9 ?_|refine F8 ?_)
  exact⟨I,[],⟨rfl,none,0,rfl,A1K _ _ _ _ _⟩,hm⟩
 |some ad=>
  repeat' (first|refine A1k ?_|refine A5Y ?_ hm;clear hm;intro bb _ hm|refine A6M ?_ hm (hr:=hr) (h1:=h1);clear hm;intro a2 cp2 _ hm;try simp only[F7]at hm|refine D8 ?_|refine D5 ?_|refine D9 ?_|refine A7 ?_|refine E8 ?_|refine A8 ?_|refine F9 ?_|refine H7 ?_|refine H9 ?_|refine E9 ?_)
  simp only[Y6]at hm |-;obtain⟨I3,hle3,hm3,hrow3⟩:=(hm.front 0 rfl).freeze;exact⟨I3,[],⟨rfl,a2,cp2,rfl,hrow3⟩,hm3.left (H:= [])⟩
theorem B2k (l:List Sp.Par):(l.flatMap A2r).all (·.oneCell')=true:=by
 induction l with
 |nil=>rfl
 |cons p l ih=>rw[A0n,List.all_append,ih];rfl
theorem B4i (l:List Sp.Rf):(l.flatMap A2f).all (·.oneCell')=true:=by
 induction l with
 |nil=>rfl
 |cons p l ih=>rw[A0n,List.all_append,ih];rfl
theorem B30 (l:List Sp.Dg):(l.flatMap A32).all (·.oneCell')=true:=by
 induction l with
 |nil=>rfl
 |cons p l ih=>rw[A0n,List.all_append,ih];rfl
end Go.Proofs
