/- Own work: texts FwS3, FwMix, FwRow, FwFork, LexE, TokM, ExM, one behind the other. -/
import Derived.Test.YtfjdfdgpkncpfaaGreatDoorQb6
set_option maxHeartbeats 64000000
section
namespace Go.Fw
open Go
def A1y (os:List Oper):List Nat→List Oper
 | []=> []
 |k::ks=>match os[k]? with
  |some o=>o::A1y os ks
  |none=>A1y os ks
section
variable {P:Program}{ops:Array Oper}{md:Region.Mode}{C:World→Prop}
def B2H (md:Region.Mode) (ops:Array Oper) (g n:Nat):List Nat→Array Bool→Bool
 | [],listed=>Region.seqB md ops g n listed
 |k::ks,listed=>decide (Region.ready md ops listed= [k]) && decide (k<n) && B2H md ops g n ks (listed.setIfInBounds k true)
def A6O (md:Region.Mode) (ops:Array Oper) (g n:Nat) (js:List Nat):List Nat→Array Bool→Bool
 | [],listed=>B2H md ops g n js listed
 |k::ks,listed=>(Region.ready md ops listed).contains k && Region.free md ops listed k && decide (k<n) && A6O md ops g n js ks (listed.setIfInBounds k true)
theorem A7e {n g:Nat}{Lq:Act→World→Prop}:∀(js:List Nat) (l:List Oper) (listed:Array Bool) (a:Act) (w:World),js.map (ops[·]?)=l.map some→
  B2H md ops g n js listed=true→A2d P ops C Lq l a w→
  A56 P md ops C n (fun listed' a' w'=>Region.seqB md ops g n listed'=true∧Lq a' w') l.length listed a w
 | [],[],listed,a,w,_,hB,h=>⟨by simpa[B2H] using hB,h⟩
 |k::js,o::l,listed,a,w,hl,hB,h=>by
  simp only[List.map_cons,List.cons.injEq] at hl
  obtain⟨h0,hl'⟩:=hl
  simp only[B2H,Bool.and_eq_true,decide_eq_true_eq] at hB
  obtain⟨⟨hB1,hkn⟩,hB2⟩:=hB
  refine⟨fun h1=>(by rw[hB1] at h1;cases h1),fun i hi=>?_⟩
  rw[hB1] at hi
  have hik:i=k:=by simpa using hi
  subst hik
  refine⟨hkn,?_⟩
  have next:∀a' w',A2d P ops C Lq l a' w'→A56 P md ops C n (fun listed' a' w'=>Region.seqB md ops g n listed'=true∧Lq a' w') l.length (listed.setIfInBounds i true) a' w':=fun a' w' h'=>
   A7e js l _ a' w' hl' hB2 h'
  unfold vOp
  simp only[h0]
  unfold A2d at h
  split
  ·rename_i hw
   rw[if_pos hw] at h
   rcases h with ⟨u,w',h1,h2,h3⟩|⟨f,args,h1,h2⟩
   ·exact .inl ⟨u,w',h1,h2,next _ _ h3⟩
   ·exact .inr ⟨f,args,h1,Calls.mono h2 (fun e w' ⟨u,he,hc,h⟩=>⟨u,he,hc,next _ _ h⟩)⟩
  ·rename_i hw
   rw[if_neg hw] at h
   exact⟨h.1,next _ _ h.2⟩
 | [],_::_,_,_,_,hl,_,_=>by simp at hl
 |_::_,[],_,_,_,hl,_,_=>by simp at hl
theorem A9O {n g:Nat}{Lq:Act→World→Prop}{js:List Nat}{lt:List Oper} (hsel:Region.noSelect ops=true) (hs:Region.sinkB md ops n=true) (hc:Region.chainB md ops n=true) (hn:n<ops.size)
  (hlt:js.map (ops[·]?)=lt.map some):
  ∀(ks:List Nat) (l:List Oper) (listed:Array Bool) (a:Act) (w:World),C w→ks.map (ops[·]?)=l.map some→HeadInv md ops n listed→
  A6O md ops g n js ks listed=true→A38 P ops C (fun a'=>A2d P ops C Lq lt a' w) l a→
  A56 P md ops C n (fun listed' a' w'=>Region.seqB md ops g n listed'=true∧Lq a' w') (l.length+lt.length) listed a w
 | [],[],listed,a,w,_,_,_,hB,h=>by
  rw[List.length_nil,Nat.zero_add]
  exact A7e js lt listed a w hlt (by simpa[A6O] using hB) h
 |k::ks,o::l,listed,a,w,hC,hl,inv,hB,h=>by
  simp only[List.map_cons,List.cons.injEq] at hl
  obtain⟨h0,hl'⟩:=hl
  simp only[A6O,Bool.and_eq_true,decide_eq_true_eq] at hB
  obtain⟨⟨⟨hr,hf⟩,hkn⟩,hB'⟩:=hB
  have hr':k∈Region.ready md ops listed:=by simpa using hr
  obtain⟨v,hy,hK⟩:=h
  rw[show (o::l).length+lt.length=(l.length+lt.length)+1 by simp only[List.length_cons];omega]
  exact B1g h0 (Region.noSelect_spec hsel) hs hc hn hkn (fun listed' a' w' hL=>seqB_ready hL.1) (l.length+lt.length) listed a w hC inv (Region.free_spec h0 hf) hr' hy
   (A9O hsel hs hc hn hlt ks l _ _ w hC hl' (inv.set hr' hkn) hB' hK)
 | [],_::_,_,_,_,_,hl,_,_,_=>by simp at hl
 |_::_,[],_,_,_,_,hl,_,_,_=>by simp at hl
theorem A2u (os:List Oper):∀(ks:List Nat),ks.all (fun k=>Nat.blt k os.length)=true→ks.map (os.toArray[·]?)=(A1y os ks).map some∧(A1y os ks).length=ks.length
 | [],_=>⟨rfl,rfl⟩
 |k::ks,h=>by
  rw[List.all_cons,Bool.and_eq_true] at h
  have hk:k<os.length:=by simpa[Nat.blt_eq] using h.1
  obtain⟨h1,h2⟩:=A2u os ks h.2
  have e:os[k]?=some os[k]:=List.getElem?_eq_getElem hk
  rw[A1y,e]
  exact⟨by simp only[List.map_cons];rw[h1];simp[e],by simp[h2]⟩
def B04 (ops:Array Oper) (ks js:List Nat) (n:Nat):Bool:=
 Region.noSelect ops && decide (n<ops.size) && Region.sinkB .any ops n && Region.chainB .any ops n && A6O .any ops (ops.size-n) n js ks (Array.replicate ops.size false) && decide (ks.length+js.length=n) &&
  ks.all (fun k=>Nat.blt k ops.size) && js.all (fun k=>Nat.blt k ops.size)
theorem A8h {id:Nat}{Q:Exit→Act→World→Prop}{a:Act}{w:World}{l:List Oper} (ks js:List Nat) (n:Nat) (hm:P.follows .mixedOrders=true) (hB:B04 l.toArray ks js n=true)
  (hC:C { w with drawn:=w.drawn+1})
  (h:A38 P l.toArray C (fun a'=>A2d P l.toArray C (fun a' w'=>wpList P l.toArray Q (l.drop n) a' w') (A1y l js) a' { w with drawn:=w.drawn+1}) (A1y l ks) a):(Code.region id l.toArray true).wp P Q a w:=by
 simp only[B04,Bool.and_eq_true,decide_eq_true_eq] at hB
 obtain⟨⟨⟨⟨⟨⟨⟨hsel,hn⟩,hs⟩,hc⟩,hlex⟩,hlen⟩,hks⟩,hjs⟩:=hB
 have hn':n<l.length:=by simpa using hn
 have hdl:(l.drop n).length=l.toArray.size-n:=by simp
 obtain⟨k1,k2⟩:=A2u l ks (by simpa using hks)
 obtain⟨j1,j2⟩:=A2u l js (by simpa using hjs)
 have inv0:HeadInv .any l.toArray n (Array.replicate l.toArray.size false):=
  ⟨by simp,fun j oj _ hl=>(by rw[getD_replicate_false] at hl;cases hl),fun t _ ht=>getD_in (by simpa using ht) (getD_replicate_false _ _)⟩
 have H:=A9O (md:=.any) (g:=l.toArray.size-n) (lt:=A1y l js) hsel hs hc hn j1 ks (A1y l ks) _ a _ hC k1 inv0 hlex h
 refine wp_region_any hm ?_
 have:=A5m (Q':=Q) (g:=l.toArray.size-n) (fun listed a' w' hL=>by
  have:=wpAny_of_seq (md:=.any) (Q':=Q) (l.drop n) n listed a' w' (fun j=>by simp[List.getElem?_drop]) (by rw[hdl];exact hL.1) hL.2
  rwa [hdl] at this) _ _ _ _ H
 rw[k2,j2,hlen,show n+(l.toArray.size-n)=l.toArray.size by omega] at this
 exact this
end
section
variable {P:Program}{N:Nat}{ds:List Deferred}{X:List Nat}{Q:Exit→Act→World→Prop}{l:Log}{w:World}{os:List Oper}{E:Ent}{I:O5}{G R:List HItem}
theorem B77 [Mixed P] {id:Nat} (ks js:List Nat) (n:Nat) (X:List Nat) (hB:B04 os.toArray ks js n=true)
  (h:∀wd,Kept [] w wd→WV P N ds os.toArray X wd (fun a'=>A2d P os.toArray (fun w'=>Kept X wd w') (fun a' w'=>wpList P os.toArray Q (os.drop n) a' w') (A1y os js) a' wd) (A1y os ks) l):
  WC P N ds (.region id os.toArray true) Q l w:=
 ⟨fun a ha=>A8h (C:=fun w'=>Kept X { w with drawn:=w.drawn+1} w') ks js n Mixed.out hB (Kept.refl _ _) ((h _ (Kept.drew w)).run a ha)⟩
theorem A0I [Mixed P] {id:Nat} (hm:Mem E I (G++R) w) (ks js:List Nat) (n:Nat) (hB:B04 os.toArray ks js n=true:=by kernel_rfl)
  (h:∀wd,Mem E I (G++R) wd→Mem ⟨wd,A1a G,I⟩ I G wd→WV P N ds os.toArray (A1a G) wd (fun a'=>A2d P os.toArray (fun w'=>Kept (A1a G) wd w') (fun a' w'=>wpList P os.toArray Q (os.drop n) a' w') (A1y os js) a' wd) (A1y os ks) l):
  WC P N ds (.region id os.toArray true) Q l w:=
 B77 ks js n (A1a G) hB (fun wd hk=>h wd (hm.kept0 hk) (hm.kept0 hk).sub)
variable {d:Nat}{ty:TypeId}{pos:String}{af:Array Edge}{g:Option (Nat×Bool)}{t t':TypeId}{x y z:Operand}{ops:Array Oper}{os' tail:List Oper}{w0:World}{I1:O5}{G1 H:List HItem}
theorem A2A {f:FuncId} [Own P f] {xs:List Operand}{tys:Array TypeId}{vs:List Value}{v:Value} (k:∀w',Mem ⟨w0,A1a G,I⟩ I1 G1 w'→WS P N ds ops Q (A1a G) w0 os' tail ((d,v)::l) w') (hR:Mem E I (G++R) w0) (hm:Mem ⟨w0,A1a G,I⟩ I1 G1 w)
  (hw:P7 ops l ⟨some d,.call ⟨.value (.func f),xs.toArray,tys⟩,ty,pos,af,g⟩=some true:=by rfl) (hN:Nat.blt d N=true:=by rfl)
  (hx:evs l xs=some vs:=by rfl) (hs:∀h∈H,h∈R:=by first|exact B1d|exact B3Z|exact B30|exact B31|exact B32|exact B33|exact B34|exact B35|exact B36|exact B37) (hc:CalR P f vs.toArray I1 H v)
   :
  WS P N ds ops Q (A1a G) w0 (⟨some d,.call ⟨.value (.func f),xs.toArray,tys⟩,ty,pos,af,g⟩::os') tail l w:=
 B2Z rfl hw hN (fun a ha=>by
  have:=ha.evs hx
  simp[execOp,resolve,invoke,Act.eval,Deferred.ofValue,this,A1g]) (hc.run w hm.inv (fun h hh=>(by
   have hr:=hs h hh
   obtain⟨i,hi⟩:=List.mem_iff_getElem?.1 hr
   exact(hR.right.ok h hr).kept hm.kept (fun b hb=>hR.notG hi hb)))) (fun u w' ⟨h1,h2⟩=>by subst h1;exact⟨(hm.kept0 h2).kept,k w' (hm.kept0 h2)⟩)
theorem A5O {places:List (Nat×Nat)}{zero:List Value} [StructT P t places zero] {ps:List (Nat×Operand)}{vs:List (Nat×Value)}{r:List Value}{X:List Nat}{I0:O5} (k:WS P N ds ops Q X w0 os' tail ((d,.agg r.toArray)::l) w) (hm:Mem ⟨w0,X,I0⟩ I1 G1 w)
  (hw:P7 ops l ⟨some d,.build t ps.toArray,ty,pos,af,g⟩=some true:=by rfl) (hN:Nat.blt d N=true:=by rfl)
  (hx:evp l ps=some vs:=by rfl) (hr:bld places zero vs=some r:=by rfl)  :
  WS P N ds ops Q X w0 (⟨some d,.build t ps.toArray,ty,pos,af,g⟩::os') tail l w:=
 A28 rfl hw hN (fun a ha=>by
  have e1:=ha.evp hx
  obtain⟨fs,h1,h2,h3⟩:=StructT.out (P:=P) (t:=t)
  have h4:=run_underlying (P:=P) (w:=w) h1
  have h5:=A3P (P:=P) w _ _ h2
  have h6:=A5s places vs zero r hr
  simp only[bind_pure_comp] at h5
  simp only[List.getElem?_toArray] at h6
  cases hi:P.info? t with
  |none=>simp[hi] at h3
  |some i=>
   simp only[hi,Option.bind_some] at h3
   simp[execOp,Instr.build,e1,zeroValue,typeInfo,hi,h3,h4,Array.mapM_eq_mapM_toList,h5,Value.cells,h6]) hm.kept k
theorem A1d {α:Type}{enc:α→List Value}{e:TypeId}{sz by_:Nat}{X:List Nat}{KV:Act→Prop}{os:List Oper} [TySlice P t e] [Elem P e sz by_] {a:Option Addr}{n cp:Nat}{i:Int}{xs:List α}{z:α} (k:∀b off,PtrI I b off e (enc z)→WV P N ds ops X w KV os ((d,.pointer (some ⟨b,off,none⟩))::l)) (hw:P7 ops l ⟨some d,.indexAddr t x y,ty,pos,af,g⟩=some true:=by rfl) (hN:Nat.blt d N=true:=by rfl)
  (hx:ev l x=some (.slice a n cp):=by rfl) (hy:ev l y=some (.int .i64 i):=by rfl) (hr:RowI I e sz (.slice a n cp) n (xs.flatMap enc)) (he:∀a,(enc a).length=sz) (h0:0≤i:=by omega) (h1:i<n:=by omega) (hz:xs[i.toNat]?=some z)
   :
  WV P N ds ops X w KV (⟨some d,.indexAddr t x y,ty,pos,af,g⟩::os) l:=by
 obtain⟨b,off,rfl,hp⟩:=hr.flat he hz (by omega)
 exact A78 hw hN hx hy h0 h1 (k b _ hp)
theorem A0h {n:Nat}{KV:Act→Prop} [TyAgg P t n] {b off tc:Nat}{cs:List Value} (k:WV P N ds ops (A1a G) w KV os ((d,.agg cs.toArray)::l)) (hR:Mem E I (G++R) w) (hw:P7 ops l ⟨some d,.load t x,ty,pos,af,g⟩=some true:=by rfl) (hN:Nat.blt d N=true:=by rfl)
  (hx:ev l x=some (.pointer (some ⟨b,off,none⟩)):=by rfl) (hp:PtrI I b off tc cs:=by assumption) (hc:cs.length=n:=by rfl)
   :WV P N ds ops (A1a G) w KV (⟨some d,.load t x,ty,pos,af,g⟩::os) l:=by
 obtain⟨c,fr,h1,h2⟩:=hp
 exact B1h hw hN hx (hR.inv _ _ h1) (hR.notGI h1) hc h2 k
theorem A2K {pl:List (Nat×Nat)}{z:List Value} [hS:StructT P t pl z] {n by_:Nat} [Elem P t n by_] {X:List Nat}{I0:O5} (k:∀b w',Mem ⟨w0,X,I0⟩ I (.obj b (.cells z.toArray t (0,0))::H) w'→WS P N ds ops Q X w0 os' tail ((d,.pointer (some ⟨b,0,none⟩))::l) w') (hm:Mem ⟨w0,X,I0⟩ I H w) (hw:P7 ops l ⟨some d,.alloc t,ty,pos,af,g⟩=some true:=by rfl) (hN:Nat.blt d N=true:=by rfl)
   :
  WS P N ds ops Q X w0 (⟨some d,.alloc t,ty,pos,af,g⟩::os') tail l w:=by
 obtain⟨_,_,_,hz⟩:=hS.out
 cases hi:P.info? t with
 |none=>simp[hi] at hz
 |some i=>
  simp only[hi,Option.bind_some] at hz
  have hk:=Kept.alloc w (.cells z.toArray t (0,0))
  have hm':=hm.add (x:=.obj w.heap.size (.cells z.toArray t (0,0))) hk (heap_alloc_new w _) (fun b hb=>by simp only[HItem.blk,Option.some.injEq] at hb;omega)
  refine A28 (w':=w.alloc (.cells z.toArray t (0,0))) (v:=.pointer (some ⟨w.heap.size,0,none⟩)) rfl hw hN (fun a ha=>?_) hm'.kept (k _ _ hm')
  simp[execOp,Instr.alloc,newVar,newRow,newObj,zeroValue,typeInfo,hi,hz,Value.cells];rfl
end
section
variable {P:Program}{ops:Array Oper}{md:Region.Mode}{C:World→Prop}
def A7y (P:Program) (ops:Array Oper) (C:World→Prop) (K:Act→World→Prop):List (Bool×Oper)→Act→World→Prop
 | [],a,w=>K a w
 |(true,o)::r,a,w=> ∃v,A0S P ops C o v a∧A7y P ops C K r (a.put o.dst v) w
 |(false,o)::r,a,w=>if Region.wanted o (yielded ops a.tmps) then (∃u w',(execOp a.eval o).run P w=.ok (.value u) w'∧C w'∧A7y P ops C K r (a.put o.dst u) w')∨
   (∃f args,(execOp a.eval o).run P w=.ok (.enter f args) w∧Calls P f args w (fun e w'=> ∃u,e=.returned u∧C w'∧A7y P ops C K r (a.put o.dst u) w')) else C w∧A7y P ops C K r (a.put o.dst undef) w
def B3y (md:Region.Mode) (ops:Array Oper) (g n:Nat):List (Bool×Nat)→Array Bool→Bool
 | [],listed=>Region.seqB md ops g n listed
 |(true,k)::r,listed=>(Region.ready md ops listed).contains k && Region.free md ops listed k && decide (k<n) && B3y md ops g n r (listed.setIfInBounds k true)
 |(false,k)::r,listed=>decide (Region.ready md ops listed= [k]) && decide (k<n) && B3y md ops g n r (listed.setIfInBounds k true)
theorem A8H {n g:Nat}{Lq:Act→World→Prop} (hsel:Region.noSelect ops=true) (hs:Region.sinkB md ops n=true) (hc:Region.chainB md ops n=true) (hn:n<ops.size):
  ∀(st:List (Bool×Nat)) (l:List (Bool×Oper)) (listed:Array Bool) (a:Act) (w:World),C w→st.map (fun p=>(p.1,ops[p.2]?))=l.map (fun p=>(p.1,some p.2))→HeadInv md ops n listed→
  B3y md ops g n st listed=true→A7y P ops C Lq l a w→
  A56 P md ops C n (fun listed' a' w'=>Region.seqB md ops g n listed'=true∧Lq a' w') l.length listed a w
 | [],[],listed,a,w,_,_,_,hB,h=>⟨by simpa[B3y] using hB,h⟩
 |(true,k)::st,(b,o)::l,listed,a,w,hC,hl,inv,hB,h=>by
  simp only[List.map_cons,List.cons.injEq,Prod.mk.injEq] at hl
  obtain⟨⟨hb,h0⟩,hl'⟩:=hl
  subst hb
  simp only[B3y,Bool.and_eq_true,decide_eq_true_eq] at hB
  obtain⟨⟨⟨hr,hf⟩,hkn⟩,hB'⟩:=hB
  have hr':k∈Region.ready md ops listed:=by simpa using hr
  obtain⟨v,hy,hK⟩:=h
  exact B1g h0 (Region.noSelect_spec hsel) hs hc hn hkn (fun listed' a' w' hL=>seqB_ready hL.1) l.length listed a w hC inv (Region.free_spec h0 hf) hr' hy
   (A8H hsel hs hc hn st l _ _ w hC hl' (inv.set hr' hkn) hB' hK)
 |(false,k)::st,(b,o)::l,listed,a,w,hC,hl,inv,hB,h=>by
  simp only[List.map_cons,List.cons.injEq,Prod.mk.injEq] at hl
  obtain⟨⟨hb,h0⟩,hl'⟩:=hl
  subst hb
  simp only[B3y,Bool.and_eq_true,decide_eq_true_eq] at hB
  obtain⟨⟨hB1,hkn⟩,hB2⟩:=hB
  have hr':k∈Region.ready md ops listed:=by rw[hB1];simp
  refine⟨fun h1=>(by rw[hB1] at h1;cases h1),fun i hi=>?_⟩
  rw[hB1] at hi
  have hik:i=k:=by simpa using hi
  subst hik
  refine⟨hkn,?_⟩
  have next:∀a' w',C w'→A7y P ops C Lq l a' w'→A56 P md ops C n (fun listed' a' w'=>Region.seqB md ops g n listed'=true∧Lq a' w') l.length (listed.setIfInBounds i true) a' w':=fun a' w' hC' h'=>
   A8H hsel hs hc hn st l _ a' w' hC' hl' (inv.set hr' hkn) hB2 h'
  unfold vOp
  simp only[h0]
  unfold A7y at h
  split
  ·rename_i hw
   rw[if_pos hw] at h
   rcases h with ⟨u,w',h1,h2,h3⟩|⟨f,args,h1,h2⟩
   ·exact .inl ⟨u,w',h1,h2,next _ _ h2 h3⟩
   ·exact .inr ⟨f,args,h1,Calls.mono h2 (fun e w' ⟨u,he,hc,h⟩=>⟨u,he,hc,next _ _ hc h⟩)⟩
  ·rename_i hw
   rw[if_neg hw] at h
   exact⟨h.1,next _ _ h.1 h.2⟩
 | [],_::_,_,_,_,_,hl,_,_,_=>by simp at hl
 |_::_,[],_,_,_,_,hl,_,_,_=>by simp at hl
def B2k (P:Program) (ops:Array Oper) (C:World→Prop) (K:Act→World→Prop):List (List Oper×List Oper)→Act→World→Prop
 | [],a,w=>K a w
 |(q,t)::r,a,w=>A38 P ops C (fun a'=>A2d P ops C (fun a'' w''=>B2k P ops C K r a'' w'') t a' w) q a
def A5c {α:Type}:List (List α×List α)→List (Bool×α)
 | []=> []
 |(q,t)::r=>q.map (fun x=>(true,x))++(t.map (fun x=>(false,x))++A5c r)
theorem A6U {K:Act→World→Prop}{r:List (Bool×Oper)}:∀(t:List Oper) (a:Act) (w:World),A2d P ops C (fun a' w'=>A7y P ops C K r a' w') t a w→A7y P ops C K (t.map (fun x=>(false,x))++r) a w
 | [],a,w,h=>h
 |o::t,a,w,h=>by
  unfold A2d at h
  rw[List.map_cons,List.cons_append]
  unfold A7y
  split
  ·rename_i hw
   rw[if_pos hw] at h
   rcases h with ⟨u,w',h1,h2,h3⟩|⟨f,args,h1,h2⟩
   ·exact .inl ⟨u,w',h1,h2,A6U t _ _ h3⟩
   ·exact .inr ⟨f,args,h1,Calls.mono h2 (fun e w' ⟨u,he,hc,h⟩=>⟨u,he,hc,A6U t _ _ h⟩)⟩
  ·rename_i hw
   rw[if_neg hw] at h
   exact⟨h.1,A6U t _ _ h.2⟩
theorem B0e {K:Act→World→Prop}{r:List (Bool×Oper)}{w:World}:∀(q:List Oper) (a:Act),A38 P ops C (fun a'=>A7y P ops C K r a' w) q a→A7y P ops C K (q.map (fun x=>(true,x))++r) a w
 | [],a,h=>h
 |o::q,a,h=>by
  obtain⟨v,h1,h2⟩:=h
  exact⟨v,h1,B0e q _ h2⟩
theorem A4A {K K':Act→World→Prop} (hk:∀a w,K a w→K' a w):∀(t:List Oper) (a:Act) (w:World),A2d P ops C K t a w→A2d P ops C K' t a w
 | [],a,w,h=>hk _ _ h
 |o::t,a,w,h=>by
  unfold A2d at h ⊢
  split
  ·rename_i hw
   rw[if_pos hw] at h
   rcases h with ⟨u,w',h1,h2,h3⟩|⟨f,args,h1,h2⟩
   ·exact .inl ⟨u,w',h1,h2,A4A hk t _ _ h3⟩
   ·exact .inr ⟨f,args,h1,Calls.mono h2 (fun e w' ⟨u,he,hc,h⟩=>⟨u,he,hc,A4A hk t _ _ h⟩)⟩
  ·rename_i hw
   rw[if_neg hw] at h
   exact⟨h.1,A4A hk t _ _ h.2⟩
theorem A9g {K K':Act→Prop} (hk:∀a,K a→K' a):∀(q:List Oper) (a:Act),A38 P ops C K q a→A38 P ops C K' q a
 | [],a,h=>hk _ h
 |o::q,a,h=>by
  obtain⟨v,h1,h2⟩:=h
  exact⟨v,h1,A9g hk q _ h2⟩
theorem B2l {K:Act→World→Prop}:∀(gs:List (List Oper×List Oper)) (a:Act) (w:World),B2k P ops C K gs a w→A7y P ops C K (A5c gs) a w
 | [],_,_,h=>h
 |(q,t)::r,a,w,h=>B0e q a (A9g (fun a' h'=>A6U t a' w (A4A (fun a'' w'' h''=>B2l r a'' w'' h'') t a' w h')) q a h)
def A70 (os:List Oper):List (List Nat×List Nat)→List (List Oper×List Oper)
 | []=> []
 |(ks,js)::r=>(A1y os ks,A1y os js)::A70 os r
def B8j (n:Nat):List (List Nat×List Nat)→Bool
 | []=>true
 |(ks,js)::r=>ks.all (fun k=>Nat.blt k n) && (js.all (fun k=>Nat.blt k n) && B8j n r)
theorem B0c (os:List Oper):∀(gs:List (List Nat×List Nat)),B8j os.length gs=true→(A5c gs).map (fun p=>(p.1,os.toArray[p.2]?))=(A5c (A70 os gs)).map (fun p=>(p.1,some p.2))∧(A5c (A70 os gs)).length=(A5c gs).length
 | [],_=>⟨rfl,rfl⟩
 |(ks,js)::r,h=>by
  simp only[B8j,Bool.and_eq_true] at h
  obtain⟨k1,k2⟩:=A2u os ks h.1
  obtain⟨j1,j2⟩:=A2u os js h.2.1
  obtain⟨r1,r2⟩:=B0c os r h.2.2
  constructor
  ·simp only[A70,A5c,List.map_append,List.map_map]
   rw[r1]
   have e:∀(b:Bool) (ks:List Nat) (l:List Oper),ks.map (os.toArray[·]?)=l.map some→ks.map ((fun p:Bool×Nat=>(p.1,os.toArray[p.2]?)) ∘ fun x=>(b,x))=l.map ((fun p:Bool×Oper=>(p.1,some p.2)) ∘ fun x=>(b,x)):=fun b ks l hl=>by
    have:=congrArg (List.map (fun z=>(b,z))) hl
    simpa[List.map_map,Function.comp_def] using this
   rw[e true ks _ k1,e false js _ j1]
  ·simp only[A70,A5c,List.length_append,List.length_map]
   rw[k2,j2,r2]
def B7a (ops:Array Oper) (gs:List (List Nat×List Nat)) (n:Nat):Bool:=
 Region.noSelect ops && decide (n<ops.size) && Region.sinkB .any ops n && Region.chainB .any ops n && B3y .any ops (ops.size-n) n (A5c gs) (Array.replicate ops.size false) && decide ((A5c gs).length=n) && B8j ops.size gs
theorem A9I {id:Nat}{Q:Exit→Act→World→Prop}{a:Act}{w:World}{l:List Oper} (gs:List (List Nat×List Nat)) (n:Nat) (hm:P.follows .mixedOrders=true) (hB:B7a l.toArray gs n=true)
  (hC:C { w with drawn:=w.drawn+1})
  (h:B2k P l.toArray C (fun a' w'=>wpList P l.toArray Q (l.drop n) a' w') (A70 l gs) a { w with drawn:=w.drawn+1}):(Code.region id l.toArray true).wp P Q a w:=by
 simp only[B7a,Bool.and_eq_true,decide_eq_true_eq] at hB
 obtain⟨⟨⟨⟨⟨⟨hsel,hn⟩,hs⟩,hc⟩,hlex⟩,hlen⟩,hall⟩:=hB
 have hn':n<l.length:=by simpa using hn
 have hdl:(l.drop n).length=l.toArray.size-n:=by simp
 obtain⟨k1,k2⟩:=B0c l gs (by simpa using hall)
 have inv0:HeadInv .any l.toArray n (Array.replicate l.toArray.size false):=
  ⟨by simp,fun j oj _ hl=>(by rw[getD_replicate_false] at hl;cases hl),fun t _ ht=>getD_in (by simpa using ht) (getD_replicate_false _ _)⟩
 have H:=A8H (md:=.any) (g:=l.toArray.size-n) hsel hs hc hn (A5c gs) (A5c (A70 l gs)) _ a _ hC k1 inv0 hlex (B2l _ _ _ h)
 refine wp_region_any hm ?_
 have:=A5m (Q':=Q) (g:=l.toArray.size-n) (fun listed a' w' hL=>by
  have:=wpAny_of_seq (md:=.any) (Q':=Q) (l.drop n) n listed a' w' (fun j=>by simp[List.getElem?_drop]) (by rw[hdl];exact hL.1) hL.2
  rwa [hdl] at this) _ _ _ _ H
 rw[k2,hlen,show n+(l.toArray.size-n)=l.toArray.size by omega] at this
 exact this
end
section
variable {P:Program}{N:Nat}{ds:List Deferred}{X:List Nat}{Q:Exit→Act→World→Prop}{l:Log}{w w0:World}{os tail:List Oper}{ops:Array Oper}{E:Ent}{I:O5}{G R:List HItem}
structure WX (P:Program) (N:Nat) (ds:List Deferred) (ops:Array Oper) (Q:Exit→Act→World→Prop) (X:List Nat) (w0:World) (gs:List (List Oper×List Oper)) (tail:List Oper) (l:Log) (w:World):Prop where
 run:∀a,Fits N ds l a→B2k P ops (fun w'=>Kept X w0 w') (fun a' w'=>wpList P ops Q tail a' w') gs a w
theorem A3Y [Mixed P] {id:Nat} (hm:Mem E I (G++R) w) (gs:List (List Nat×List Nat)) (n:Nat) (hB:B7a os.toArray gs n=true:=by kernel_rfl)
  (h:∀wd,Mem E I (G++R) wd→Mem ⟨wd,A1a G,I⟩ I G wd→WX P N ds os.toArray Q (A1a G) wd (A70 os gs) (os.drop n) l wd):
  WC P N ds (.region id os.toArray true) Q l w:=
 ⟨fun a ha=>A9I (C:=fun w'=>Kept (A1a G) { w with drawn:=w.drawn+1} w') gs n Mixed.out hB (Kept.refl _ _) ((h _ (hm.kept0 (Kept.drew w)) (hm.kept0 (Kept.drew w)).sub).run a ha)⟩
theorem A9y (h:WL P N ds ops Q tail l w):WX P N ds ops Q X w0 [] tail l w:=⟨fun a ha=>h.run a ha⟩
theorem A69 {q t:List Oper}{r:List (List Oper×List Oper)} (h:WV P N ds ops X w0 (fun a'=>A2d P ops (fun w'=>Kept X w0 w') (fun a'' w''=>B2k P ops (fun w'=>Kept X w0 w') (fun a' w'=>wpList P ops Q tail a' w') r a'' w'') t a' w) q l):
  WX P N ds ops Q X w0 ((q,t)::r) tail l w:=⟨fun a ha=>h.run a ha⟩
theorem A68 {t:List Oper}{r:List (List Oper×List Oper)} (h:WS P N ds ops (fun _ a w=>B2k P ops (fun w'=>Kept X w0 w') (fun a' w'=>wpList P ops Q tail a' w') r a w) X w0 t [] l w):
  WV P N ds ops X w0 (fun a'=>A2d P ops (fun w'=>Kept X w0 w') (fun a'' w''=>B2k P ops (fun w'=>Kept X w0 w') (fun a' w'=>wpList P ops Q tail a' w') r a'' w'') t a' w) [] l:=⟨fun a ha=>by
 refine A4A (fun a' w' h'=>?_) t a w (h.run a ha)
 simpa[wpList] using h'⟩
theorem B6k {r:List (List Oper×List Oper)} (h:WX P N ds ops Q X w0 r tail l w):At N ds (fun _ a w=>B2k P ops (fun w'=>Kept X w0 w') (fun a' w'=>wpList P ops Q tail a' w') r a w) .normal l w:=⟨fun a ha=>h.run a ha⟩
end
section
variable {P:Program}{N:Nat}{ds:List Deferred}{Q:Exit→Act→World→Prop}{K:Act→World→Prop}{l l':Log}{w w':World}{ops:Array Oper}{os:List Oper}
variable {d:Nat}{ty:TypeId}{pos:String}{af:Array Edge}{g:Option (Nat×Bool)}{t t':TypeId}{x y z:Operand}
variable {E:Ent}{I I':O5}{H H' R:List HItem}
theorem A08 {e:TypeId} [TySlice P t e] {a:Option Addr}{n c:Nat}{k0:Value} (k:WL P N ds ops Q os ((d,.bool a.isNone)::l) w) (hw:P7 ops l ⟨some d,.binOp .eql t x (.const k0) t',ty,pos,af,g⟩=some true:=by rfl) (hN:Nat.blt d N=true:=by rfl)
  (hx:ev l x=some (.slice a n c):=by rfl) (hk:k0=.slice none 0 0:=by rfl)  :
  WL P N ds ops Q (⟨some d,.binOp .eql t x (.const k0) t',ty,pos,af,g⟩::os) l w:=
 O9 rfl hw hN (fun c' hc=>by
  subst hk
  have h1:=run_underlying (P:=P) (w:=w) (TySlice.out (P:=P) (t:=t))
  have e2:c'.eval (.const (.slice none 0 0))=.slice none 0 0:=rfl
  have h2:(Op.equal t (.slice a n c) (.slice none 0 0)).run P w=.ok a.isNone w:=by
   show (Op.equalIn (9999+1) t (.slice a n c) (.slice none 0 0)).run P w=_
   rw[Op.equalIn]
   cases a<;>simp[h1]
  simp[execOp,hc.ev hx,e2,eqGuard,binOp,h2]) k
theorem A2J {e:TypeId}{sz by_ n:Nat} [TySlice P t e] [Elem P e sz by_] {ps:List (Nat×Operand)}{vs:List (Nat×Value)}{xs:List Value} (k:∀b w',Mem E I (.row (.slice (some ⟨b,0,none⟩) n n) e sz n xs::H) w'→WL P N ds ops Q os ((d,.slice (some ⟨b,0,none⟩) n n)::l) w') (hm:Mem E I H w)
  (hw:P7 ops l ⟨some d,.buildSlice t n ps.toArray,ty,pos,af,g⟩=some true:=by rfl) (hN:Nat.blt d N=true:=by rfl) (hx:evp l ps=some vs:=by rfl)
  (hi:vs.map (·.1)=List.range' 0 n:=by rfl) (hs:vs.all (fun p=>Nat.beq p.2.cells.toList.length sz)=true:=by rfl) (hn:Nat.ble (n *sz) 16777216=true:=by rfl) (hn2:Nat.ble n 16777216=true:=by rfl) (hxs:vs.flatMap (·.2.cells.toList)=xs:=by rfl) (hl:xs.length=n *sz:=by rfl)
   :
  WL P N ds ops Q (⟨some d,.buildSlice t n ps.toArray,ty,pos,af,g⟩::os) l w:=by
 subst hxs
 refine A4h hw hN hx hi hs (Nat.le_of_ble_eq_true hn) (fun b w' hb hh hk=>k b w' (hm.add hk ⟨hl,.inr ⟨b,n,_,rfl,Nat.zero_le _,hh,Nat.le_refl _,?_,by simpa using hl,?_⟩⟩ (fun b' hb'=>?_)))
 ·have:=Nat.le_of_ble_eq_true hn2
  unfold maxLen;omega
 ·rw[←hl];exact List.take_length
 ·simp only[HItem.blk,Value.ownBlock,Option.some.injEq] at hb';omega
theorem A7w {e:TypeId}{sz by_:Nat} [TySlice P t e] [Elem P e sz by_] {i:Nat}{v:Value}{n m cp:Nat}{ad:Addr}{xs us:List Value} (k:∀a cp' w',Mem E I (H.set i (.row (.slice a (n+m) cp') e sz (n+m) (xs++us))) w'→WL P N ds ops Q os ((d,.slice a (n+m) cp')::l) w') (hm:Mem E I H w)
  (hw:P7 ops l ⟨some d,.call ⟨.builtin .append, #[x,y], #[t,t]⟩,ty,pos,af,g⟩=some true:=by rfl) (hN:Nat.blt d N=true:=by rfl)
  (hx:ev l x=some v:=by rfl) (hy:ev l y=some (.slice (some ad) m cp):=by rfl) (hi:H[i]?=some (.row v e sz n xs):=by first|exact gt0|exact gt1|exact gt2|exact gt3|exact gt4|exact gt5|exact gt6) (hr:RowI I e sz (.slice (some ad) m cp) m us) (h1:us.all (·.oneCell')=true)
  (hlen:(n+m) *by_≤140737488355328:=by omega) (h63:n+m≤9223372036854775807:=by omega)
   :
  WL P N ds ops Q (⟨some d,.call ⟨.builtin .append, #[x,y], #[t,t]⟩,ty,pos,af,g⟩::os) l w:=by
 have hown:=hm.getRow hi
 have hus:=hr.len
 have hcell:∀j u,us[j]?=some u→w.cell? (ad.add j)=some u:=fun j u hj=>by
  obtain⟨_,a',cap',e1,e2,e3⟩:=hr
  injection e1 with e1 _ _
  have hm0:0<m:=by
   rcases Nat.eq_zero_or_pos m with h0|h0
   ·rw[h0,Nat.zero_mul] at hus
    have:=List.eq_nil_of_length_eq_zero hus
    subst this
    simp at hj
   ·exact h0
  obtain⟨b,off,c,fr,f1,f2,f3⟩:=e3 hm0
  rw[f1] at e1
  injection e1 with e1
  subst e1
  rw[Addr.add_lit]
  exact A1A (hm.inv _ _ f2) (f3 j u hj)
 obtain⟨v',w',hrun,ho,hk,hb⟩:=A4Y (P:=P) (t:=t) hown ad m cp us hus hcell (fun r hr=>List.all_eq_true.1 h1 r hr) h63 hlen (Nat.zero_le _) ty
 have hm':=hm.turn (h':=.row v' e sz (n+m) (xs++us)) hi hk ho (hb.imp_right fun ⟨g,h1,h2⟩=>⟨g,h1,h2⟩)
 have hlt:i<H.length:=(List.getElem?_eq_some_iff.1 hi).1
 obtain⟨a,cp',rfl⟩:=A3o (hm'.getRow (i:=i) (by rw[List.getElem?_set];simp[hlt];exact⟨rfl,rfl,rfl,rfl,rfl⟩))
 refine O9 (w':=w') (v:=.slice a (n+m) cp') rfl hw hN (fun a ha=>?_) (k a cp' w' hm')
 simp[execOp,resolve,invoke,builtin,ha.ev hx,ha.ev hy,hrun]
theorem B7m {G:List HItem}{KV:Act→Prop}{n:Nat} [TyAgg P t n] {i b off:Nat}{c:List Value}{e:TypeId}{fr:Nat×Nat}{vs:List Value} (k:WV P N ds ops (A1a G) w KV os ((d,.agg vs.toArray)::l)) (hR:Mem E I (G++R) w) (hw:P7 ops l ⟨some d,.load t x,ty,pos,af,g⟩=some true:=by rfl) (hN:Nat.blt d N=true:=by rfl)
  (hx:ev l x=some (.pointer (some ⟨b,off,none⟩)):=by rfl) (hb:R[i]?=some (.obj b (.cells c.toArray e fr)):=by first|exact gt0|exact gt1|exact gt2|exact gt3|exact gt4|exact gt5|exact gt6) (hc:(c.drop off).take n=vs:=by rfl) (hl:vs.length=n:=by rfl)
   :WV P N ds ops (A1a G) w KV (⟨some d,.load t x,ty,pos,af,g⟩::os) l:=
 B1h hw hN hx (hR.right.get hb) (hR.notG hb rfl) hl (fun j v hv=>by
  rw[←hc,List.getElem?_take] at hv
  split at hv
  ·rw[List.getElem?_drop] at hv;simpa using hv
  ·cases hv) k
end
section
variable {P:Program}{ops:Array Oper}{md:Region.Mode}{C:World→Prop}
def uOp (P:Program) (ops:Array Oper) (i:Nat) (K:Act→World→Prop) (a:Act) (w:World):Prop:=
 match ops[i]? with
 |none=>K a w
 |some o=>if Region.wanted o (yielded ops a.tmps) then (∃u w',(execOp a.eval o).run P w=.ok (.value u) w'∧K (a.put o.dst u) w')∨
   (∃f args,(execOp a.eval o).run P w=.ok (.enter f args) w∧Calls P f args w (fun e w'=> ∃u,e=.returned u∧K (a.put o.dst u) w'))∨
   (∃w',(execOp a.eval o).run P w=.ok .skip w'∧K (a.put o.dst undef) w') else K (a.put o.dst undef) w
theorem B2X {Q:Exit→Act→World→Prop}{i:Nat}{K:Act→World→Prop}{a:Act}{w:World} (h:uOp P ops i K a w):wpOp P ops Q i K a w:=by
 unfold uOp at h
 unfold wpOp
 cases ho:ops[i]? with
 |none=>simpa[ho] using h
 |some o=>
  simp only[ho] at h ⊢
  split
  ·rename_i hw
   rw[if_pos hw] at h
   left
   rcases h with ⟨u,w',h1,h2⟩|⟨f,args,h1,h2⟩|⟨w',h1,h2⟩
   ·unfold Oper.wp
    rw[h1,Oper.upon_value]
    exact h2
   ·unfold Oper.wp
    rw[h1,Oper.upon_enter]
    exact Calls.mono h2 (fun e w' ⟨u,he,hk⟩=>by subst he;exact hk)
   ·unfold Oper.wp
    rw[h1,Oper.upon_skip]
    exact h2
  ·rename_i hw
   rw[if_neg hw] at h
   exact h
theorem B2R {i:Nat}{K K':Act→World→Prop}{a:Act}{w:World} (hk:∀a w,K a w→K' a w) (h:uOp P ops i K a w):uOp P ops i K' a w:=by
 unfold uOp at h ⊢
 cases ho:ops[i]? with
 |none=>simp only[ho] at h ⊢;exact hk _ _ h
 |some o=>
  simp only[ho] at h ⊢
  split
  ·rename_i hw
   rw[if_pos hw] at h
   rcases h with ⟨u,w',h1,h2⟩|⟨f,args,h1,h2⟩|⟨w',h1,h2⟩
   ·exact .inl ⟨u,w',h1,hk _ _ h2⟩
   ·exact .inr (.inl ⟨f,args,h1,Calls.mono h2 (fun e w' ⟨u,he,h⟩=>⟨u,he,hk _ _ h⟩)⟩)
   ·exact .inr (.inr ⟨w',h1,hk _ _ h2⟩)
  ·rename_i hw
   rw[if_neg hw] at h
   exact hk _ _ h
theorem A0S.uOp {i:Nat}{o:Oper}{v:Value}{a:Act}{w:World} (hi:ops[i]?=some o) (hy:A0S P ops C o v a) (hC:C w) {K:Act→World→Prop} (h:K (a.put o.dst v) w):uOp P ops i K a w:=by
 unfold Fw.uOp
 simp only[hi]
 rcases hy with ⟨hw,hv⟩|⟨hw,rfl⟩
 ·rw[if_pos hw];exact .inl ⟨v,w,hv w hC,h⟩
 ·rw[if_neg (by rw[hw];simp)];exact h
theorem B9h {j:Nat}{oi oj:Oper}{v:Value} (hj:ops[j]?=some oj) (hap:oi.apart ops oj=true)
  (hsi:∀cs b,oi.op≠ .select cs b) (hsj:∀cs b,oj.op≠ .select cs b) {K:Act→World→Prop}{a:Act}{w:World}
  (hy:A0S P ops C oi v a) (h:uOp P ops j K (a.put oi.dst v) w):
  uOp P ops j (fun a' w'=>A0S P ops C oi v a'∧K (a'.put oi.dst v) w') a w:=by
 obtain⟨h1,h2,h3⟩:=Oper.apart_spec hap
 have keep:∀(a:Act),A0S P ops C oi v a→∀u,A0S P ops C oi v (a.put oj.dst u):=fun a hy u=>by
  unfold A0S at hy ⊢
  rw[execOp_put oi hsi a oj.dst u h3,wanted_put oi a oj.dst u h3]
  exact hy
 unfold uOp at *
 simp only[hj] at *
 rw[wanted_put oj a oi.dst v h1] at h
 split
 ·rename_i hw
  rw[if_pos hw] at h
  rcases h with ⟨u,w',hu,hn⟩|⟨f,args,hu,hn⟩|⟨w',hu,hn⟩
  ·rw[execOp_put oj hsj a oi.dst v h1] at hu
   exact .inl ⟨u,w',hu,keep a hy u,by rw[←Act.put_comm a v u h2];exact hn⟩
  ·rw[execOp_put oj hsj a oi.dst v h1] at hu
   exact .inr (.inl ⟨f,args,hu,Calls.mono hn (fun e w' ⟨u,he,h⟩=>⟨u,he,keep a hy u,by rw[←Act.put_comm a v u h2];exact h⟩)⟩)
  ·rw[execOp_put oj hsj a oi.dst v h1] at hu
   exact .inr (.inr ⟨w',hu,keep a hy _,by rw[←Act.put_comm a v undef h2];exact hn⟩)
 ·rename_i hw
  rw[if_neg hw] at h
  exact⟨keep a hy _,by rw[←Act.put_comm a v undef h2];exact h⟩
def A8E (P:Program) (md:Region.Mode) (ops:Array Oper) (C:World→Prop) (n:Nat) (L:Array Bool→Act→World→Prop):Nat→Array Bool→Act→World→Prop
 |0,listed,a,w=>L listed a w
 |f+1,listed,a,w=>Region.ready md ops listed≠ []∧∀i∈Region.ready md ops listed,i<n∧uOp P ops i (fun a' w'=>C w'∧A8E P md ops C n L f (listed.setIfInBounds i true) a' w') a w
theorem B1A {n g:Nat}{L:Array Bool→Act→World→Prop}{Q':Exit→Act→World→Prop} (hL:∀listed a w,L listed a w→wpAny P md ops Q' g listed a w):
  ∀(f:Nat) (listed:Array Bool) (a:Act) (w:World),A8E P md ops C n L f listed a w→wpAny P md ops Q' (f+g) listed a w
 |0,listed,a,w,h=>by rw[Nat.zero_add];exact hL _ _ _ h
 |f+1,listed,a,w,h=>by
  rw[show f+1+g=(f+g)+1 by omega]
  exact⟨fun h0=>absurd h0 h.1,fun i hi=>B2X (B2R (fun a' w' h'=>B1A hL f _ a' w' h'.2) (h.2 i hi).2)⟩
theorem B9i {n i:Nat}{oi:Oper}{v:Value}{L:Array Bool→Act→World→Prop} (hi:ops[i]?=some oi) (hsel:∀(j:Nat) (o:Oper) cs b,ops[j]?=some o→o.op≠ .select cs b)
  (hs:Region.sinkB md ops n=true) (hc:Region.chainB md ops n=true) (hn:n<ops.size) (hin:i<n)
  (hdone:∀listed a w,L listed a w→∀j∈Region.ready md ops listed,n≤j):
  ∀(f:Nat) (listed:Array Bool) (a:Act) (w:World),C w→HeadInv md ops n listed→
   (∀j oj,ops[j]?=some oj→j≠i→listed.getD j true=false→(∀e∈oj.after,Region.binds md e=true→e.on≠i)→oi.apart ops oj=true)→
   i∈Region.ready md ops listed→A0S P ops C oi v a→
   A8E P md ops C n L f (listed.setIfInBounds i true) (a.put oi.dst v) w→A8E P md ops C n L (f+1) listed a w:=by
 intro f
 induction f with
 |zero=>
  intro listed a w hC inv _ hr hy H
  have hun:=(mem_ready.1 hr).1
  refine⟨fun h=>(by rw[h] at hr;cases hr),fun j hj=>?_⟩
  have hjn:j<n:=by
   rcases Nat.lt_or_ge j n with h|h
   ·exact h
   ·exact absurd hj (tail_waits hs hc hn inv _ i rfl hin hun j h)
  refine⟨hjn,?_⟩
  by_cases hji:j=i
  ·subst hji;exact hy.uOp hi hC ⟨hC,H⟩
  ·have:=hdone _ _ _ H j (ready_mono hj hji)
   omega
 |succ f ih=>
  intro listed a w hC inv hfree hr hy H
  have hun:=(mem_ready.1 hr).1
  refine⟨fun h=>(by rw[h] at hr;cases hr),fun j hj=>?_⟩
  have hjn:j<n:=by
   rcases Nat.lt_or_ge j n with h|h
   ·exact h
   ·exact absurd hj (tail_waits hs hc hn inv _ i rfl hin hun j h)
  refine⟨hjn,?_⟩
  by_cases hji:j=i
  ·subst hji;exact hy.uOp hi hC ⟨hC,H⟩
  ·have h1:=(H.2 j (ready_mono hj hji)).2
   obtain⟨hjun,oj,hoj,hall⟩:=mem_ready.1 hj
   have hnot:∀e∈oj.after,Region.binds md e=true→e.on≠i:=fun e he hb heq=>by
    have h1:=hall e he hb
    rw[heq,getD_both hun] at h1
    cases h1
   have h2:=B9h hoj (hfree j oj hoj hji hjun hnot) (fun cs b=>hsel i oi cs b hi) (fun cs b=>hsel j oj cs b hoj) hy h1
   have hfree':∀k ok,ops[k]?=some ok→k≠i→(listed.setIfInBounds j true).getD k true=false→
     (∀e∈ok.after,Region.binds md e=true→e.on≠i)→oi.apart ops ok=true:=fun k ok hk hki hun hno=>by
    refine hfree k ok hk hki ?_ hno
    by_cases hjk:j=k
    ·subst hjk;exact hjun
    ·rw[getD_set_ne true hjk] at hun;exact hun
   refine B2R (fun a' w' h3=>⟨h3.2.1,ih (listed.setIfInBounds j true) a' w' h3.2.1 (inv.set hj hjn) hfree' (ready_mono hr (Ne.symm hji)) h3.1 ?_⟩) h2
   rw[Array.setIfInBounds_comm _ _ hji]
   exact h3.2.2
def B4D (md:Region.Mode) (ops:Array Oper) (n:Nat):List Nat→Array Bool→Bool
 | [],_=>true
 |k::ks,listed=>(Region.ready md ops listed).contains k && Region.free md ops listed k && decide (k<n) && B4D md ops n ks (listed.setIfInBounds k true)
def B4E:List Nat→Array Bool→Array Bool
 | [],l=>l
 |k::ks,l=>B4E ks (l.setIfInBounds k true)
theorem A8F {n g f:Nat}{Lq:Act→World→Prop} (hsel:Region.noSelect ops=true) (hs:Region.sinkB md ops n=true) (hc:Region.chainB md ops n=true) (hn:n<ops.size):
  ∀(ks:List Nat) (l:List Oper) (listed:Array Bool) (a:Act) (w:World),C w→ks.map (ops[·]?)=l.map some→HeadInv md ops n listed→B4D md ops n ks listed=true→
  A38 P ops C (fun a'=>A8E P md ops C n (fun listed' a' w'=>Region.seqB md ops g n listed'=true∧Lq a' w') f (B4E ks listed) a' w) l a→
  A8E P md ops C n (fun listed' a' w'=>Region.seqB md ops g n listed'=true∧Lq a' w') (l.length+f) listed a w
 | [],[],listed,a,w,_,_,_,_,h=>by rw[List.length_nil,Nat.zero_add];exact h
 |k::ks,o::l,listed,a,w,hC,hl,inv,hB,h=>by
  simp only[List.map_cons,List.cons.injEq] at hl
  obtain⟨h0,hl'⟩:=hl
  simp only[B4D,Bool.and_eq_true,decide_eq_true_eq] at hB
  obtain⟨⟨⟨hr,hf⟩,hkn⟩,hB'⟩:=hB
  have hr':k∈Region.ready md ops listed:=by simpa using hr
  obtain⟨v,hy,hK⟩:=h
  rw[show (o::l).length+f=(l.length+f)+1 by simp only[List.length_cons];omega]
  exact B9i h0 (Region.noSelect_spec hsel) hs hc hn hkn (fun listed' a' w' hL=>seqB_ready hL.1) (l.length+f) listed a w hC inv (Region.free_spec h0 hf) hr' hy
   (A8F hsel hs hc hn ks l _ _ w hC hl' (inv.set hr' hkn) hB' hK)
 | [],_::_,_,_,_,_,hl,_,_,_=>by simp at hl
 |_::_,[],_,_,_,_,hl,_,_,_=>by simp at hl
def B3m (ops:Array Oper) (ks:List Nat) (n:Nat):Bool:=
 Region.noSelect ops && decide (n<ops.size) && Region.sinkB .any ops n && Region.chainB .any ops n && B4D .any ops n ks (Array.replicate ops.size false) && decide (ks.length≤n) && ks.all (fun k=>Nat.blt k ops.size)
theorem A9w {id:Nat}{Q:Exit→Act→World→Prop}{a:Act}{w:World}{l:List Oper} (ks:List Nat) (n:Nat) (hm:P.follows .mixedOrders=true) (hB:B3m l.toArray ks n=true)
  (hC:C { w with drawn:=w.drawn+1})
  (h:A38 P l.toArray C (fun a'=>A8E P .any l.toArray C n (fun listed' a' w'=>Region.seqB .any l.toArray (l.length-n) n listed'=true∧wpList P l.toArray Q (l.drop n) a' w') (n-ks.length) (B4E ks (Array.replicate l.length false)) a' { w with drawn:=w.drawn+1}) (A1y l ks) a):
  (Code.region id l.toArray true).wp P Q a w:=by
 simp only[B3m,Bool.and_eq_true,decide_eq_true_eq] at hB
 obtain⟨⟨⟨⟨⟨⟨hsel,hn⟩,hs⟩,hc⟩,hlex⟩,hlen⟩,hks⟩:=hB
 have hn':n<l.length:=by simpa using hn
 have hdl:(l.drop n).length=l.length-n:=by simp
 obtain⟨k1,k2⟩:=A2u l ks (by simpa using hks)
 have inv0:HeadInv .any l.toArray n (Array.replicate l.length false):=
  ⟨by simp,fun j oj _ hl=>(by rw[getD_replicate_false] at hl;cases hl),fun t _ ht=>getD_in (by simpa using ht) (getD_replicate_false _ _)⟩
 have H:=A8F (md:=.any) (g:=l.length-n) (f:=n-ks.length) hsel hs hc hn ks (A1y l ks) _ a _ hC k1 inv0 (by simpa using hlex) h
 refine wp_region_any hm ?_
 have:=B1A (Q':=Q) (g:=l.length-n) (fun listed a' w' hL=>by
  have:=wpAny_of_seq (md:=.any) (Q':=Q) (l.drop n) n listed a' w' (fun j=>by simp[List.getElem?_drop]) (by rw[hdl];exact hL.1) hL.2
  rwa [hdl] at this) _ _ _ _ H
 rw[k2,show ks.length+(n-ks.length)+(l.length-n)=l.length by omega] at this
 simpa using this
end
section
variable {P:Program}{N:Nat}{ds:List Deferred}{X:List Nat}{Q:Exit→Act→World→Prop}{l:Log}{w w' w0:World}{os tail:List Oper}{ops:Array Oper}{E:Ent}{I:O5}{G R H:List HItem}{o:Oper}
structure WA (P:Program) (N:Nat) (ds:List Deferred) (ops:Array Oper) (Q:Exit→Act→World→Prop) (X:List Nat) (w0:World) (n f:Nat) (listed:Array Bool) (tail:List Oper) (l:Log) (w:World):Prop where
 run:∀a,Fits N ds l a→A8E P .any ops (fun w'=>Kept X w0 w') n (fun listed' a' w'=>Region.seqB .any ops (ops.size-n) n listed'=true∧wpList P ops Q tail a' w') f listed a w
structure WU (P:Program) (N:Nat) (ds:List Deferred) (ops:Array Oper) (Q:Exit→Act→World→Prop) (X:List Nat) (w0:World) (n f:Nat) (listed:Array Bool) (tail:List Oper) (o:Oper) (l:Log) (w:World):Prop where
 run:∀a,Fits N ds l a→∀i,ops[i]?=some o→uOp P ops i (fun a' w'=>Kept X w0 w'∧A8E P .any ops (fun w'=>Kept X w0 w') n (fun listed' a' w'=>Region.seqB .any ops (ops.size-n) n listed'=true∧wpList P ops Q tail a' w') f listed a' w') a w
theorem A8a [Mixed P] {id:Nat} (hm:Mem E I (G++R) w) (ks:List Nat) (n:Nat) (hB:B3m os.toArray ks n=true:=by kernel_rfl)
  (h:∀wd,Mem E I (G++R) wd→Mem ⟨wd,A1a G,I⟩ I G wd→WV P N ds os.toArray (A1a G) wd (fun a'=>A8E P .any os.toArray (fun w'=>Kept (A1a G) wd w') n (fun listed' a' w'=>Region.seqB .any os.toArray (os.toArray.size-n) n listed'=true∧wpList P os.toArray Q (os.drop n) a' w') (n-ks.length) (B4E ks (Array.replicate os.length false)) a' wd) (A1y os ks) l):
  WC P N ds (.region id os.toArray true) Q l w:=
 ⟨fun a ha=>A9w (C:=fun w'=>Kept (A1a G) { w with drawn:=w.drawn+1} w') ks n Mixed.out hB (Kept.refl _ _) ((h _ (hm.kept0 (Kept.drew w)) (hm.kept0 (Kept.drew w)).sub).run a ha)⟩
theorem B48 {n f:Nat}{listed:Array Bool} (h:WA P N ds ops Q X w n f listed tail l w):
  WV P N ds ops X w (fun a'=>A8E P .any ops (fun w'=>Kept X w w') n (fun listed' a' w'=>Region.seqB .any ops (ops.size-n) n listed'=true∧wpList P ops Q tail a' w') f listed a' w) [] l:=⟨fun a ha=>h.run a ha⟩
theorem B74 {n:Nat}{listed:Array Bool} (hs:Region.seqB .any ops (ops.size-n) n listed=true) (h:WL P N ds ops Q tail l w):WA P N ds ops Q X w0 n 0 listed tail l w:=⟨fun a ha=>⟨hs,h.run a ha⟩⟩
theorem A3W {n f i:Nat}{listed:Array Bool} (h:WU P N ds ops Q X w0 n f (listed.setIfInBounds i true) tail o l w) (hr:Region.ready .any ops listed= [i]) (hi:ops[i]?=some o:=by rfl) (hn:Nat.blt i n=true:=by rfl)
   :WA P N ds ops Q X w0 n (f+1) listed tail l w:=
 ⟨fun a ha=>⟨by rw[hr];simp,fun j hj=>by
  rw[hr] at hj
  obtain rfl:j=i:=by simpa using hj
  exact⟨by simpa[Nat.blt_eq] using hn,h.run a ha j hi⟩⟩⟩
theorem A3X {n f i j:Nat}{o2:Oper}{listed:Array Bool} (h2:WU P N ds ops Q X w0 n f (listed.setIfInBounds j true) tail o2 l w) (hr:Region.ready .any ops listed= [i,j]) (hi:ops[i]?=some o:=by rfl) (hj:ops[j]?=some o2:=by rfl) (hn:Nat.blt i n=true:=by rfl) (hn2:Nat.blt j n=true:=by rfl)
  (h:WU P N ds ops Q X w0 n f (listed.setIfInBounds i true) tail o l w)  :WA P N ds ops Q X w0 n (f+1) listed tail l w:=
 ⟨fun a ha=>⟨by rw[hr];simp,fun k hk=>by
  rw[hr] at hk
  rcases List.mem_cons.1 hk with rfl|hk
  ·exact⟨by simpa[Nat.blt_eq] using hn,h.run a ha _ hi⟩
  ·obtain rfl:k=j:=by simpa using hk
   exact⟨by simpa[Nat.blt_eq] using hn2,h2.run a ha _ hj⟩⟩⟩
variable {d:Nat}{ty:TypeId}{pos:String}{af:Array Edge}{g:Option (Nat×Bool)}{t t':TypeId}{x y z:Operand}{n f:Nat}{listed:Array Bool}
theorem A67 {d:Nat}{v:Value} (hd:o.dst=some d) (hw:P7 ops l o=some true) (hN:Nat.blt d N=true) (hrun:∀a,Fits N ds l a→(execOp a.eval o).run P w=.ok (.value v) w') (hC:Kept X w0 w')
  (k:WA P N ds ops Q X w0 n f listed tail ((d,v)::l) w'):WU P N ds ops Q X w0 n f listed tail o l w:=
 ⟨fun a ha i hi=>by
  unfold uOp
  simp only[hi]
  rw[A09 ha hw]
  exact .inl ⟨v,w',hrun a ha,hC,by rw[hd];exact k.run _ (ha.put hN v)⟩⟩
theorem B47 (hd:o.dst=none) (hw:P7 ops l o=some true) (hrun:∀a,Fits N ds l a→(execOp a.eval o).run P w=.ok .skip w') (hC:Kept X w0 w')
  (k:WA P N ds ops Q X w0 n f listed tail l w'):WU P N ds ops Q X w0 n f listed tail o l w:=
 ⟨fun a ha i hi=>by
  unfold uOp
  simp only[hi]
  rw[A09 ha hw]
  exact .inr (.inr ⟨w',hrun a ha,hC,by rw[hd];exact k.run _ ha⟩)⟩
theorem A99 {pl:List (Nat×Nat)}{z:List Value} [hS:StructT P t pl z] {n' by_:Nat} [Elem P t n' by_] {I0:O5} (k:∀b w',Mem ⟨w0,X,I0⟩ I (.obj b (.cells z.toArray t (0,0))::H) w'→WA P N ds ops Q X w0 n f listed tail ((d,.pointer (some ⟨b,0,none⟩))::l) w') (hm:Mem ⟨w0,X,I0⟩ I H w) (hw:P7 ops l ⟨some d,.alloc t,ty,pos,af,g⟩=some true:=by rfl) (hN:Nat.blt d N=true:=by rfl)
   :
  WU P N ds ops Q X w0 n f listed tail ⟨some d,.alloc t,ty,pos,af,g⟩ l w:=by
 obtain⟨_,_,_,hz⟩:=hS.out
 cases hi:P.info? t with
 |none=>simp[hi] at hz
 |some i=>
  simp only[hi,Option.bind_some] at hz
  have hk:=Kept.alloc w (.cells z.toArray t (0,0))
  have hm':=hm.add (x:=.obj w.heap.size (.cells z.toArray t (0,0))) hk (heap_alloc_new w _) (fun b hb=>by simp only[HItem.blk,Option.some.injEq] at hb;omega)
  refine A67 (w':=w.alloc (.cells z.toArray t (0,0))) (v:=.pointer (some ⟨w.heap.size,0,none⟩)) rfl hw hN (fun a ha=>?_) hm'.kept (k _ _ hm')
  simp[execOp,Instr.alloc,newVar,newRow,newObj,zeroValue,typeInfo,hi,hz,Value.cells];rfl
structure WHold (p:Prop):Prop where
 out:p
theorem Z5 (id:Nat) {dr:Bool} (h:WHold (WC P N ds (.region id ops dr) Q l w)):WC P N ds (.region id ops dr) Q l w:=h.out
theorem B45 {α:Type} (id:Nat) (L:α→Log) (J:α→World→Prop)
  (h:WC P N ds (.region id os.toArray true) (Exit.then (fun a w=> ∃x,Fits N ds (L x) a∧J x w) Q) l w) (k:∀x w,J x w→At N ds Q .normal (L x) w):WC P N ds (.region id os.toArray true) Q l w:=
 ⟨fun a ha=>wp_mono (h.run a ha) (fun e a w q=>by
  cases e<;>first|exact q|(obtain⟨x,hx,hj⟩:=q;exact(k x w hj).run a hx))⟩
theorem A0T {e:TypeId}{sz by_:Nat}{KV:Act→Prop} [TySlice P t e] [Elem P e sz by_] {a:Option Addr}{m cp:Nat}{i:Int}{xs:List Value} (k:∀b off,PtrI I b off e ((xs.drop (i.toNat *sz)).take sz)→WV P N ds ops X w KV os ((d,.pointer (some ⟨b,off,none⟩))::l)) (hw:P7 ops l ⟨some d,.indexAddr t x y,ty,pos,af,g⟩=some true:=by rfl) (hN:Nat.blt d N=true:=by rfl)
  (hx:ev l x=some (.slice a m cp):=by rfl) (hy:ev l y=some (.int .i64 i):=by rfl) (hr:RowI I e sz (.slice a m cp) m xs) (h0:0≤i:=by omega) (h1:i<m:=by omega)
   :
  WV P N ds ops X w KV (⟨some d,.indexAddr t x y,ty,pos,af,g⟩::os) l:=by
 obtain⟨b,off,rfl,hp⟩:=hr.at_ i.toNat (by omega)
 exact A78 hw hN hx hy h0 h1 (k b _ hp)
theorem B2m {i b n' by_:Nat} [Elem P t n' by_] {c vs:List Value}{e:TypeId}{dst:Option Nat}{I0:O5} (k:∀w',Mem ⟨w0,X,I0⟩ I (H.set i (.obj b (.cells vs.toArray e (0,0)))) w'→WA P N ds ops Q X w0 n f listed tail l w') (hm:Mem ⟨w0,X,I0⟩ I H w) (hd:dst=none:=by rfl) (hw:P7 ops l ⟨dst,.store t x y,ty,pos,af,g⟩=some true:=by rfl)
  (hx:ev l x=some (.pointer (some ⟨b,0,none⟩)):=by rfl) (hy:ev l y=some (.agg vs.toArray):=by rfl) (hb:H[i]?=some (.obj b (.cells c.toArray e (0,0))):=by first|exact gt0|exact gt1|exact gt2|exact gt3|exact gt4|exact gt5|exact gt6) (hn:vs.length=n':=by rfl) (ho:c.length=n':=by rfl)
  (h1:vs.all (·.oneCell')=true:=by rfl)
   :
  WU P N ds ops Q X w0 n f listed tail ⟨dst,.store t x y,ty,pos,af,g⟩ l w:=by
 subst hd
 have hget:=hm.get hb
 have h2:=A4Z (P:=P) (t:=t) (off:=0) (.agg vs.toArray) hget (by simpa[Value.cells] using hn) (by simp[ho]) (by simpa[Value.cells] using h1)
 generalize hc':(c.toArray.toList.take 0++(Value.agg vs.toArray).cells.toList++c.toArray.toList.drop (0+n')).toArray=c' at h2
 have e0:c'=vs.toArray:=by
  rw[←hc',Nat.zero_add, ←ho]
  simp[Value.cells]
 rw[e0] at h2
 have hk:Kept [b] w (w.setRow b vs.toArray):=Kept.setRow hget _
 have hm':=hm.turn (h':=.obj b (.cells vs.toArray e (0,0))) hb (by simpa[HItem.blk] using hk) (by
  show (w.setRow b vs.toArray).heap[b]?=_
  rw[setRow_heap w b c.toArray _ e (0,0) hget]) (.inl rfl)
 refine B47 rfl hw (fun a ha=>?_) hm'.kept (k _ hm')
 simp only[execOp,Instr.storeAt,Instr.sureAddr,ha.ev hx,ha.ev hy,Sem.run_bind,Sem.run_pure,Result.andThen,h2]
end
theorem A4e {P:Program}{N:Nat}{ds:List Deferred}{Q:Exit→Act→World→Prop}{l:Log}{w:World} (id:Nat) {ops:Array Oper}{dr:Bool}{x y:Code}{α:Type} (L:α→Log) (J:α→World→Prop)
  (h:WHold (WC P N ds (.seq (.region id ops dr) x) (Exit.then (fun a w=> ∃x,Fits N ds (L x) a∧J x w) Q) l w))
  (k:∀x w,J x w→WC P N ds y Q (L x) w):WC P N ds (.seq (.seq (.region id ops dr) x) y) Q l w:=A6r id L J h.out k
theorem A79 {P:Program}{N:Nat}{ds:List Deferred}{Q:Exit→Act→World→Prop}{l:Log}{w:World} (id:Nat) {ops:Array Oper}{dr:Bool}{x y:Code}{α:Type} (L:α→Log) (J:α→World→Prop)
  (h:WHold (WC P N ds (.seq (.region id ops dr) x) (Exit.then (fun a w=> ∃x,Fits N ds (L x) a∧J x w) Q) l w))
  (k:∀x w,J x w→WC P N ds y Q (L x) w):WC P N ds (.seq (.seq (.region id ops dr) x) y) Q l w:=A6r id L J h.out k
end Go.Fw
end
section
namespace Go.Proofs.YtfjdfdgpkncpfaaGreatDoor
open Go.Fw
theorem toNat_inj {a b:UInt8} (h:(a.toNat:Int)=b.toNat):a=b:=UInt8.toNat_inj.1 (by omega)
def A1Q (t:Sp.Tok):List Value:= [.int .i64 (t.kind:Int),str t.text,.int .i64 (t.pos:Int)]
theorem B9k {s:List UInt8}{k:Nat} (h:k<s.length) (hf:Sp.A3c (s.getD k 0)=false):Sp.A7M s=false:=by
 have:s.all Sp.A3c=false:=by
  rw[Bool.eq_false_iff];intro h1
  have:=(Sp.B4g _ _).1 h1 k h
  rw[hf] at this;cases this
 simp[Sp.A7M,this]
def A1q (n:Nat):List Value:= [.int .i64 (n:Int)]
theorem B28 (l:List Sp.Tok) (k:Nat) (t:Sp.Tok) (h:l[k]?=some t) (j:Nat) (v:Value) (hv:(A1Q t)[j]?=some v):(l.flatMap A1Q)[k *3+j]?=some v:=by
 induction l generalizing k with
 |nil=>simp at h
 |cons a l ih=>
  have hj:j<3:=by
   have:=(List.getElem?_eq_some_iff.1 hv).1
   simpa[A1Q] using this
  cases k with
  |zero=>
   simp at h
   subst h
   rw[List.flatMap_cons,List.getElem?_append_left (by simp[A1Q];omega)]
   simpa using hv
  |succ k=>
   rw[List.flatMap_cons,List.getElem?_append_right (by simp[A1Q];omega)]
   have:=ih k (by simpa using h)
   rw[←this]
   congr 1
   simp[A1Q];omega
theorem A4F (s:List UInt8):(Sp.O3 s).length≤s.length:=by
 have key:∀(n k:Nat),s.length-k=n→(Sp.A2P s k).length≤n:=by
  intro n
  induction n using Nat.strongRecOn with
  |_ n ih=>
   intro k hn
   by_cases h:k<s.length
   ·have hl:=Sp.A3K (s.drop k) (by simp;omega)
    simp only[List.length_drop] at hl
    have:=ih (s.length-(k+(Sp.one (s.drop k)).2)) (by omega) _ rfl
    rw[Sp.A26 s k h,List.length_append]
    split
    ·simp;omega
    ·simp;omega
   ·rw[Sp.A3U s k (by omega)];simp
 have:=key _ 0 rfl
 rw[Sp.A4E];simpa using this
end Go.Proofs.YtfjdfdgpkncpfaaGreatDoor
end
section
namespace Go.Sp
theorem A50 {F:UInt8→Bool}:∀ {l:List UInt8}{c:UInt8},c∈l.takeWhile F→F c=true
 | [],_,h=>by simp at h
 |a::l,c,h=>by
  rw[List.takeWhile_cons] at h
  split at h
  ·rename_i ha
   rcases List.mem_cons.1 h with rfl|h
   ·exact ha
   ·exact A50 h
  ·simp at h
theorem B40 (F:UInt8→Bool):∀r:List UInt8,r.take (r.takeWhile F).length=r.takeWhile F
 | []=>rfl
 |a::r=>by
  rw[List.takeWhile_cons]
  split
  ·rw[List.length_cons,List.take_succ_cons,B40 F r]
  ·rfl
theorem B4a {s:List UInt8}{t:Tok} (h:TokOk s t) (hk:t.kind=2):∀c∈t.text,48≤c.toNat∧c.toNat≤57:=by
 have h1:=h.one.1
 have h2:=h.one.2
 have h3:=h.text
 rw[hk] at h1
 rw[h2] at h3
 intro c hc
 rw[h3] at hc
 generalize s.drop t.pos=r at h1 hc
 cases r with
 |nil=>simp[one] at h1
 |cons a r=>
  simp only[one] at h1 hc
  split at h1
  ·simp at h1
  ·split at h1
   ·simp at h1
   ·split at h1
    ·simp at h1
    ·split at h1
     ·rename_i n1 n2 n3 n4
      rw[if_neg n1,if_neg n2,if_neg n3,if_pos n4] at hc
      have e:(run A1Z r)=1+(r.takeWhile A1Z).length:=rfl
      rw[e,Nat.add_comm,List.take_succ_cons,B40] at hc
      have:A1Z c=true:=by
       rcases List.mem_cons.1 hc with rfl|hc
       ·exact n4
       ·exact A50 hc
      simpa[A1Z] using this
     ·split at h1<;>simp at h1
end Go.Sp
namespace Go.Proofs.YtfjdfdgpkncpfaaGreatDoor
open Go.Fw
structure Ok (T:Sp.Src):Prop where
 size:T.size≤1048576
 len:T.l.length≤T.size
 tok:∀t∈T.l,t.pos+t.text.length≤T.size
 len1:∀t∈T.l,1≤t.text.length
 dig:∀t∈T.l,t.kind=2→∀c∈t.text,48≤c.toNat∧c.toNat≤57
theorem Ok.at_ {T:Sp.Src} (h:Ok T) (i:Nat):(T.tok i).pos+(T.tok i).text.length≤T.size:=by
 rcases Nat.lt_or_ge i T.l.length with h1|h1
 ·rw[Sp.Src.tok,List.getD_eq_getElem?_getD,List.getElem?_eq_getElem h1]
  exact h.tok _ (List.getElem_mem h1)
 ·rw[Sp.A2S h1];simp
theorem A14 {T:Sp.Src}{i:Nat} (h:i<T.l.length):T.l[i]?=some (T.tok i):=by
 rw[Sp.Src.tok,List.getD_eq_getElem?_getD,List.getElem?_eq_getElem h];rfl
abbrev A1o (I:O5) (T:Sp.Src) (la:Option Addr) (lc:Nat):Prop:=RowI I 81 3 (.slice la T.l.length lc) T.l.length (T.l.flatMap A1Q)
abbrev A15 (ds:List Sp.Dg) (da:Option Addr) (dc:Nat):HItem:=.row (.slice da ds.length dc) 92 4 ds.length (ds.flatMap A3w)
theorem B5I (s:List UInt8) (h:s.length≤1048576):Ok ⟨Sp.O3 s,s.length⟩:=
 ⟨h,A4F s,fun t ht=>(Sp.A1u s t ht).fit,fun t ht=>(Sp.A1u s t ht).len,fun t ht hk=>Sp.B4a (Sp.A1u s t ht) hk⟩
end Go.Proofs.YtfjdfdgpkncpfaaGreatDoor
end
section
namespace Go.Sp
theorem B7Y (t:List UInt8):A0l t≤3:=by
 rw[A0l]
 split
 ·omega
 ·split
  ·omega
  ·split<;>omega
end Go.Sp
namespace Go.Proofs.YtfjdfdgpkncpfaaGreatDoor
open Go.Fw
abbrev A0d (e:Sp.Ex) (ea:Option Addr) (ec:Nat):List Value:= [nt e.kind,str e.name,nt e.n,.slice ea e.args.length ec,nt e.fr,nt e.to]
abbrev ex0:List Value:= [.int .i64 0,str [],.int .i64 0,.slice none 0 0,.int .i64 0,.int .i64 0]
theorem A3x {I:O5}{e:Sp.Ex}{ea:Option Addr}{ec:Nat}{xs:List Value} (h1:RowI I 107 6 (.slice ea e.args.length ec) e.args.length xs) (h2:V5 I e.args xs):A4f I e (A0d e ea ec):=by
 cases e with
 |mk k nm n args f t=>exact .of h1 h2
theorem C1o {I:O5}{e1 e2:Sp.Ex}{c1 c2:List Value} (h1:A4f I e1 c1) (h2:A4f I e2 c2):V5 I [e1,e2] (c1++(c2++ [])):=by
 rw[V5];exact⟨c1,_,rfl,h1,by rw[V5];exact⟨c2,[],rfl,h2,.nil⟩⟩
theorem Ok.digs {T:Sp.Src} (h:Ok T) {i:Nat} (hk:(T.tok i).kind=2):∀c∈(T.tok i).text,48≤c.toNat∧c.toNat≤57:=by
 rcases Nat.lt_or_ge i T.l.length with h1|h1
 ·rw[Sp.Src.tok,List.getD_eq_getElem?_getD,List.getElem?_eq_getElem h1] at hk ⊢
  exact h.dig _ (List.getElem_mem h1) hk
 ·rw[Sp.A2S h1] at hk;cases hk
theorem A0M (I:O5):RowI I 109 15 (.slice none ([]:List Sp.Stm).length 0) ([]:List Sp.Stm).length []:=A0z _ _ _ _ _
theorem A6p {I:O5}{s:Sp.Stm}{ea a1 a2:Option Addr}{ec c1 c2:Nat}{ex xs1 xs2:List Value}
  (h2:RowI I 107 6 (.slice ea s.e.args.length ec) s.e.args.length ex) (h3:V5 I s.e.args ex)
  (h4:RowI I 109 15 (.slice a1 s.thn.length c1) s.thn.length xs1) (h5:U8 I s.thn xs1) (h6:RowI I 109 15 (.slice a2 s.els.length c2) s.els.length xs2) (h7:U8 I s.els xs2):
  A29 I s (A44 s.kind s.name s.at_ s.label s.opn s.e ea ec (.slice a1 s.thn.length c1) (.slice a2 s.els.length c2) s.fr s.to):=by
 cases s with
 |mk k nm a lb o e thn els f t=>exact .of h2 h3 h4 h5 h6 h7
abbrev B7S (n:Nat) (a:Option Addr) (cp:Nat) (xs:List Value):HItem:=.row (.slice a n cp) 109 15 n xs
abbrev B22 (n:Nat) (a:Option Addr) (cp:Nat) (xs:List Value):HItem:=.row (.slice a n cp) 107 6 n xs
abbrev A10:Value:=.slice none 0 0
abbrev B0X (l:List Sp.Par) (n:Nat) (a:Option Addr) (c:Nat):HItem:=.row (.slice a n c) 65 3 n (l.flatMap A2a)
abbrev B1a (l:List Sp.Rf) (n:Nat) (a:Option Addr) (c:Nat):HItem:=.row (.slice a n c) 62 2 n (l.flatMap A1v)
abbrev B9J (err:Nat) (its:List Sp.Itm):Value→O5→List HItem→Prop:=fun v I' H'=> ∃a cp xs,v=.tuple #[.agg [.slice a its.length cp].toArray,nt err]∧RowI I' 60 10 (.slice a its.length cp) its.length xs∧A3f I' its xs∧H'= []
abbrev C05 (k:Nat) (a:Option Addr) (cp:Nat) (xs:List Value):HItem:=.row (.slice a k cp) 60 10 k xs
structure ItX where
 I:O5
 da:Option Addr
 dc:Nat
 ap:Option Addr
 cp:Nat
 as_:Option Addr
 cs:Nat
 ab:Option Addr
 cb:Nat
 xb:List Value
abbrev itV (q:Sp.Itm) (x:ItX):List Value:=A1m q.kind q.name q.label (.slice x.ap q.params.length x.cp) (.slice x.as_ q.sends.length x.cs) (.slice x.ab q.body.length x.cb) q.at_ q.size q.mark A10
abbrev C0I (it:Sp.Itm):Value→O5→List HItem→Prop:=fun v I' H'=> ∃cs,v=.agg cs.toArray∧A5g I' it cs∧H'= []
end Go.Proofs.YtfjdfdgpkncpfaaGreatDoor
end
