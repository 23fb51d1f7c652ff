/- Own work. -/
import Derived.Test.YtbmbnippbldmfaaGreatDoorRa10
import Derived.Lib.AppendStr
import Derived.Lib.Builder
import Derived.Lib.UnsafeStr
import Derived.Laws.Externs
import Derived.Lib.Split
import Derived.Lib.Join
set_option maxHeartbeats 64000000
namespace Go.Fw
open Go.Sp
open Go
section
variable {P:Program}{t t':TypeId}{w:World}
theorem B8O {e:TypeId} [TySlice P t e] [TyStr P t'] [he:Elem P e 1 1] (hz:(P.info? e).bind (·.zero)=some (.int .u8 0)) {v:Value}{base n:Nat}{xs:List Value} (hown:w.ownsRow base e 1 v n xs) (s:List UInt8)
  (hbytes:n+s.length≤140737488355328) (hbase:base≤w.heap.size) (ty:TypeId):
  ∃v' w',(Builtin.append_ #[t,t'] ty #[v,str s]).run P w=.ok v' w'∧w'.ownsRow base e 1 v' (n+s.length) (xs++s.map (fun c=>Value.int .u8 c.toNat))∧Kept v.ownBlock.toList w w'∧
   (v'.ownBlock=v.ownBlock∨∃g,v'.ownBlock=some g∧w.heap.size≤g):=by
 obtain⟨inf,z,hinf,hzz,hs,hby,_,_⟩:=he.out;have hz2:inf.zero=some (.int .u8 0):=by simpa[hinf] using hz
 have hsz:(⟨s.toArray⟩:ByteArray).size=s.length:=A4h s;have ht:=TySlice.out (P:=P) (t:=t);have hu:=TyStr.out (P:=P) (t:=t');have hm63:n+(⟨s.toArray⟩:ByteArray).size≤maxLen:=by unfold maxLen;rw[hsz];omega
 have hst:Lib.strCells ⟨s.toArray⟩=s.map (fun c=>Value.int .u8 c.toNat):=rfl;rcases hown.2 with ⟨rfl,rfl⟩|⟨g,cap,cur,rfl,hbg,hg,hnc,hcm,hcs,htake⟩
 ·have hx:xs= []:=A05 (by simpa using hown.1)
  subst hx;obtain⟨v',w',hr,ho,hk,_⟩:=Lib.run_append_own_string (P:=P) (w:=w) w.heap.size t t' ty e inf ht hu hinf hz2 hs hby (.slice none 0 0) 0 [] (World.ownsRow_nil w _ _ _) ⟨s.toArray⟩ hm63 (by rw[hsz];omega) (H7 _);rw[hsz,hst]at ho;refine⟨v',w',hr,A51 ho hbase,Kept.of_grown hk,?_⟩
  cases hv:v'.ownBlock with
  |none=>exact .inl (by simp[Value.ownBlock])
  |some g=>exact .inr ⟨g,rfl,(ho.lt g hv).1⟩
 ·obtain⟨v',w',hr,ho,hk,_⟩:=Lib.run_append_own_string (P:=P) (w:=w) base t t' ty e inf ht hu hinf hz2 hs hby _ n xs hown ⟨s.toArray⟩ hm63 (by rw[hsz];omega) hbase
  have ho2:=ho;rw[hsz,hst]at ho2;refine⟨v',w',hr,ho2,Kept.of_grown hk,?_⟩
  by_cases hroom:n+(⟨s.toArray⟩:ByteArray).size≤cap
  ·have hr2:=Lib.run_append_room_string (P:=P) w t t' ty e inf ht hu hinf hs g n cap cur hg ⟨s.toArray⟩ hroom (by rw[hcs,A4e];exact hroom)
   rw[hr]at hr2;injection hr2 with e1 _
   exact .inl (by rw[e1];rfl)
  ·have holds:∀j u,xs[j]?=some u→w.cell? ((⟨g,0,none⟩:Addr).add j)=some u:=hown.cells (g:=g) rfl
   have hr2:=Lib.run_append_grow_string (P:=P) w t t' ty e inf _ ht hu hinf hzz ⟨g,0,none⟩ n cap xs (by rw[hs];exact hown.1) holds ⟨s.toArray⟩ (by omega) (by rw[hsz];omega) (growslice_fits (by omega) (by rw[hby,hsz];omega));rw[hr]at hr2;injection hr2 with e1 _
   exact .inr ⟨w.heap.size,by rw[e1];rfl,H7 _⟩
end
section
variable {P:Program}{N:Nat}{ds:List Deferred}{X:List Nat}{Q:Exit→Act→World→Prop}{l:Log}{w w' w0:World}{os os' tail:List Oper}{ops:Array Oper}{E:Ent}{I I0:P8}{G R H:List HItem}{o:Oper}{K:Act→Prop}
variable {d:Nat}{ty:TypeId}{pos:String}{af:Array Edge}{g:Option (Nat×Bool)}{t t':TypeId}{x y z:Operand}
theorem D6v {e:TypeId} [TySlice P t e] [TyStr P t'] [Elem P e 1 1] (hz:(P.info? e).bind (·.zero)=some (.int .u8 0)) {i n:Nat}{v:Value}{xs:List Value}{s:List UInt8} (hm:Mem E I H w)
  (hw:X9 ops l ⟨some d,.call ⟨.builtin .append, #[x,y], #[t,t']⟩,ty,pos,af,g⟩=some true) (hN:Nat.blt d N=true)
  (hx:ev l x=some v) (hy:ev l y=some (str s)) (hi:H[i]?=some (.row v e 1 n xs)) (hlen:n+s.length≤140737488355328)
  (k:∀a cp w',Mem E I (H.set i (.row (.slice a (n+s.length) cp) e 1 (n+s.length) (xs++s.map (fun c=>Value.int .u8 c.toNat)))) w'→WL P N ds ops Q os ((d,.slice a (n+s.length) cp)::l) w'):
  WL P N ds ops Q (⟨some d,.call ⟨.builtin .append, #[x,y], #[t,t']⟩,ty,pos,af,g⟩::os) l w:=by
 obtain⟨v',w',hrun,ho,hk,hb⟩:=B8O (P:=P) (t:=t) (t':=t') hz (hm.getRow hi) s hlen (H9 _) ty;have hm':=hm.turn (h':=.row v' e 1 (n+s.length) (xs++s.map (fun c=>Value.int .u8 c.toNat))) hi hk ho hb;have hlt:i<H.length:=(A0D.1 hi).1;obtain⟨a,cp',rfl⟩:=A5f (hm'.getRow (i:=i) (by rw[A25];simp[hlt];exact⟨rfl,rfl,rfl,rfl,rfl⟩));refine X6 (w':=w') (v:=.slice a (n+s.length) cp') rfl hw hN (fun c hc=>?_) (k a cp' w' hm')
 simp[execOp,resolve,invoke,builtin,hc.ev hx,hc.ev hy]
 rw[show str s=Value.string ⟨s.toArray⟩ from rfl,hrun];rfl
theorem D1M {te e:TypeId}{b off:Nat}{c:Array Value}{fr:Nat×Nat} (ht:P.underlying t=some (.pointer te)) (ht':P.underlying t'=some .unsafePointer) (hs:((P.info? te).map (fun j=>Nat.blt 0 j.size))=some true)
  (hw:X9 ops l ⟨some d,.convert t t' x,ty,pos,af,g⟩=some true) (hN:Nat.blt d N=true) (hx:ev l x=some (.pointer (some ⟨b,off,none⟩))) (hb:w.heap[b]?=some (.cells c e fr)) (ho:off<c.size)
  (k:WL P N ds ops Q os ((d,.pointer (some ⟨b,off,none⟩))::l) w):WL P N ds ops Q (⟨some d,.convert t t' x,ty,pos,af,g⟩::os) l w:=
 X6 rfl hw hN (fun a ha=>by
  cases hj:P.info? te with
  |none=>simp[hj]at hs
  |some j=>
   have hj0:j.size≠0:=by
    simp only[hj,A1g,X4,A2U]at hs;omega
   have h:=Lib.run_to_unsafe (P:=P) w ⟨b,off,none⟩ ht ht' hj hj0 (e:=e) (cells:=c.size) (by simp[World.shape?,hb]) ho;simp[execOp,ha.ev hx,h]) k
theorem C5D {u e:TypeId}{b off:Nat}{c:Array Value}{fr:Nat×Nat} (ht:P.underlying t=some .unsafePointer) (ht':P.underlying t'=some (.pointer u)) (hu:(P.info? u).isSome=true)
  (hw:X9 ops l ⟨some d,.convert t t' x,ty,pos,af,g⟩=some true) (hN:Nat.blt d N=true) (hx:ev l x=some (.pointer (some ⟨b,off,none⟩))) (hb:w.heap[b]?=some (.cells c e fr)) (hl:liesAt P P.depth e (c.size / P.cellsOf e) off u 1=true)
  (k:WL P N ds ops Q os ((d,.pointer (some ⟨b,off,none⟩))::l) w):WL P N ds ops Q (⟨some d,.convert t t' x,ty,pos,af,g⟩::os) l w:=
 X6 rfl hw hN (fun a ha=>by
  cases hj:P.info? u with
  |none=>simp[hj]at hu
  |some j=>
   have h:=Lib.run_from_unsafe (P:=P) w ⟨b,off,none⟩ ht ht' hj (e:=e) (cells:=c.size) (by simp[World.shape?,hb]) hl;simp[execOp,ha.ev hx,h]) k
theorem D1L {f : FuncId} {fn : Func} {xs : List Operand} {tys : Array TypeId} {v : Value} (hf : P.funcs[f]? = some fn) (hname : (fn.name == "runtime.NumGoroutine") = false) (hb : fn.body.isNone = true) (hn : Extern.findNext fn = none) (he : Extern.find fn = some Extern.AbiNoEscape.same)
  (hw:X9 ops l ⟨some d,.call ⟨.value (.func f),xs.toArray,tys⟩,ty,pos,af,g⟩=some true) (hN:Nat.blt d N=true) (hx:evs l xs=some [v])
  (k:WL P N ds ops Q os ((d,v)::l) w):WL P N ds ops Q (⟨some d,.call ⟨.value (.func f),xs.toArray,tys⟩,ty,pos,af,g⟩::os) l w:=
 X6 rfl hw hN (fun a ha=>by
  have h1:=ha.evs hx;have h2:=run_callFunc_extern hf hname hb hn he #[v] w;rw[Lib.run_noEscape]at h2;simp[execOp,resolve,invoke,Act.eval,Deferred.ofValue,h1,h2,Result.andThen]) k
theorem B7T {te:TypeId} (hp:P.underlying t=some (.pointer te)) (hs:(P.info? te).isSome=true) {a:Addr} (hw:X9 ops l ⟨some d,.binOp .neq t x y t',ty,pos,af,g⟩=some true) (hN:Nat.blt d N=true) (hx:ev l x=some (.pointer (some a))) (hy:ev l y=some (.pointer (some a)))
  (k:WL P N ds ops Q os ((d,.bool false)::l) w):WL P N ds ops Q (⟨some d,.binOp .neq t x y t',ty,pos,af,g⟩::os) l w:=
 X6 rfl hw hN (fun c hc=>by
  cases hj:P.info? te with
  |none=>simp[hj]at hs
  |some j=>
   have h:=Lib.run_neq_ptr_same (P:=P) w a hp hj;simp[execOp,hc.ev hx,hc.ev hy,eqGuard,h]) k
theorem C4e {a:Addr}{n c:Nat} (hw:X9 ops l ⟨some d,.call ⟨.builtin .unsafeSliceData, #[x], #[t]⟩,ty,pos,af,g⟩=some true) (hN:Nat.blt d N=true)
  (hx:ev l x=some (.slice (some a) n c)) (hc:c≠0) (k:WV P N ds ops X w K os ((d,.pointer (some a))::l)):
  WV P N ds ops X w K (⟨some d,.call ⟨.builtin .unsafeSliceData, #[x], #[t]⟩,ty,pos,af,g⟩::os) l:=
 A2p rfl hw hN (fun w' hkq b ha=>by
  have h1:=Lib.run_unsafeSliceData_row (P:=P) w' #[t] ty a n c hc;simp[execOp,resolve,invoke,builtin,ha.ev hx,h1]) k
theorem C1x {n c:Nat} (hw:X9 ops l ⟨some d,.call ⟨.builtin .unsafeSliceData, #[x], #[t]⟩,ty,pos,af,g⟩=some true) (hN:Nat.blt d N=true)
  (hx:ev l x=some (.slice none n c)) (k:WV P N ds ops X w K os ((d,.pointer none)::l)):
  WV P N ds ops X w K (⟨some d,.call ⟨.builtin .unsafeSliceData, #[x], #[t]⟩,ty,pos,af,g⟩::os) l:=
 A2p rfl hw hN (fun w' hkq b ha=>by
  have h1:=Lib.run_unsafeSliceData_nil (P:=P) w' #[t] ty n c;simp[execOp,resolve,invoke,builtin,ha.ev hx,h1]) k
theorem C5x (hm:Mem ⟨w0,X,I0⟩ I H w) {q:Option Addr} (hw:X9 ops l ⟨some d,.call ⟨.builtin .unsafeString, #[x,y], #[t,t']⟩,ty,pos,af,g⟩=some true) (hN:Nat.blt d N=true)
  (hx:ev l x=some (.pointer q)) (hy:ev l y=some (.int .i64 0)) (k:WS P N ds ops Q X w0 os' tail ((d,str [])::l) w):
  WS P N ds ops Q X w0 (⟨some d,.call ⟨.builtin .unsafeString, #[x,y], #[t,t']⟩,ty,pos,af,g⟩::os') tail l w:=
 A5W (v:=str []) rfl hw hN (fun a ha=>by
  have h1:=Lib.run_unsafeString_none (P:=P) w t t' ty q;simp[execOp,resolve,invoke,builtin,ha.ev hx,ha.ev hy,h1]
  rfl) hm.kept k
theorem C8X {e:TypeId} (hp:P.underlying t=some (.pointer e)) (hc:P.cellsOf e=1) {b n cap:Nat}{s:List UInt8} (hm:Mem ⟨w0,X,I0⟩ I (.row (.slice (some ⟨b,0,none⟩) n cap) e 1 n (s.map (fun c=>Value.int .u8 c.toNat))::H) w)
  (hw:X9 ops l ⟨some d,.call ⟨.builtin .unsafeString, #[x,y], #[t,t']⟩,ty,pos,af,g⟩=some true) (hN:Nat.blt d N=true)
  (hx:ev l x=some (.pointer (some ⟨b,0,none⟩))) (hy:ev l y=some (.int .i64 (n:Int))) (hs:s≠ []) (hsn:s.length=n)
  (k:∀w',Mem ⟨w0,X,I0⟩ I H w'→WS P N ds ops Q X w0 os' tail ((d,str s)::l) w'):
  WS P N ds ops Q X w0 (⟨some d,.call ⟨.builtin .unsafeString, #[x,y], #[t,t']⟩,ty,pos,af,g⟩::os') tail l w:=by
 subst hsn;have h0:0<s.length:=A24.2 hs;obtain⟨b',cp,cur,hv,hm2,hcp,hcm,hsz,ht⟩:=hm.openRow h0;injection hv with e1 _ e3
 injection e1 with e1
 injection e1 with e1
 subst e1;subst e3;have hg:=hm2.ok _ O4;have hg':w.heap[b]?=some (.cells cur e (0,0)):=hg;rw[A4e]at hsz;rw[A4e]at ht;have hrun:=Lib.run_unsafeString_row (P:=P) w t t' ty e hp hc b cur.size (by simp[World.shape?,hg']) s hs (by omega) (by unfold maxLen at hcm;omega) (fun j c hj=>by
  rw[Addr.add_lit];refine A3I hg' ?_
  have h1:(cur.toList.take s.length)[j]?=some (.int .u8 c.toNat):=by rw[ht,Y6,hj];rfl
  rw[A2M]at h1;split at h1
  ·simpa using h1
  ·cases h1)
 have hk:Kept [b] w (w.freeze ⟨b,0,none⟩ s.length):=by
  have hn0:s.length≠0:=by omega
  rw[World.freeze,if_neg hn0];refine⟨rfl,rfl,rfl,by simp,fun q hq hqb=>?_⟩
  have hne:b≠q:=fun e=>hqb (by rw[e];exact O4)
  simp[A4o,hne]
 have hm':Mem ⟨w0,X,I0⟩ I H (w.freeze ⟨b,0,none⟩ s.length):=hm2.tl.keptX hk (fun q hq=>by
   obtain rfl:q=b:=by simpa using hq
   exact hm2.born _ O4 q rfl) (fun q hq=>by
   obtain rfl:q=b:=by simpa using hq
   exact hm2.free _ O4 q rfl) (fun h hh q hq hqb=>by
   obtain rfl:q=b:=by simpa using hqb
   exact(A17.1 hm2.dist).1 h hh q rfl hq)
 exact A5W (v:=str s) rfl hw hN (fun a ha=>by
  simp[execOp,resolve,invoke,builtin,ha.ev hx,ha.ev hy,hrun]) hm'.kept (k _ hm')
end
section
variable {P:Program}{ops:Array Oper}{md:Region.Mode}{C:World->Prop}
theorem D3c {n i:Nat}{oi:Oper}{v:Value}{L:Array Bool->Act->World->Prop} (hi:ops[i]?=some oi) (hsel:∀(j:Nat) (o:Oper) cs b,ops[j]?=some o->o.op≠ .select cs b)
  (hn:n=ops.size)
  (hdone:∀listed a w,L listed a w->∀j∈Region.ready md ops listed,n<=j):
  ∀(f:Nat) (listed:Array Bool) (a:Act) (w:World),C w->HeadInv md ops n listed->
   (∀j oj,ops[j]?=some oj->j≠i->listed.getD j true=false->(∀e∈oj.after,Region.binds md e=true->e.on≠i)->oi.apart ops oj=true)->
   i∈Region.ready md ops listed->A3G P ops C oi v a->
   B3r P md ops C n L f (listed.setIfInBounds i true) (a.put oi.dst v) w->B3r P md ops C n L (f+1) listed a w:=by
 intro f;induction f with
 |zero=>
  intro listed a w hC inv _ hr hy H;refine⟨fun h=>(by rw[h]at hr;cases hr),fun j hj=>?_⟩
  have hjn:j<n:=by
   obtain⟨_,oj,hoj,_⟩:=mem_ready.1 hj;rw[hn];exact(B0c.1 hoj).1
  refine⟨hjn,?_⟩
  by_cases hji:j=i
  ·subst hji;exact hy.vOp hi hC ⟨hC,H⟩
  ·have:=hdone _ _ _ H j (ready_mono hj hji)
   omega
 |succ f ih=>
  intro listed a w hC inv hfree hr hy H;have hun:=(mem_ready.1 hr).1;refine⟨fun h=>(by rw[h]at hr;cases hr),fun j hj=>?_⟩
  have hjn:j<n:=by
   obtain⟨_,oj,hoj,_⟩:=mem_ready.1 hj;rw[hn];exact(B0c.1 hoj).1
  refine⟨hjn,?_⟩
  by_cases hji:j=i
  ·subst hji;exact hy.vOp hi hC ⟨hC,H⟩
  ·have h1:=(H.2 j (ready_mono hj hji)).2
   obtain⟨hjun,oj,hoj,hall⟩:=mem_ready.1 hj;have hnot:∀e∈oj.after,Region.binds md e=true->e.on≠i:=fun e he hb heq=>by
    have h1:=hall e he hb;rw[heq,getD_both hun]at h1;cases h1
   have h2:=C75 hoj (hfree j oj hoj hji hjun hnot) (fun cs b=>hsel i oi cs b hi) (fun cs b=>hsel j oj cs b hoj) hy h1;have hfree':∀k ok,ops[k]?=some ok->k≠i->(listed.setIfInBounds j true).getD k true=false->
     (∀e∈ok.after,Region.binds md e=true->e.on≠i)->oi.apart ops ok=true:=fun k ok hk hki hun hno=>by
    refine hfree k ok hk hki ?_ hno
    by_cases hjk:j=k
    ·subst hjk;exact hjun
    ·rw[getD_set_ne true hjk]at hun;exact hun
   refine B8w (fun a' w' h3=>⟨h3.2.1,ih (listed.setIfInBounds j true) a' w' h3.2.1 (inv.set hj hjn) hfree' (ready_mono hr (Ne.symm hji)) h3.1 ?_⟩) h2
   rw[B0L _ _ hji];exact h3.2.2
theorem B6V {n g:Nat}{Lq:Act->World->Prop}{js:List Nat}{lt:List Oper} (hsel:Region.noSelect ops=true) (hn:n=ops.size)
  (hlt:js.map (ops[·]?)=lt.map some):
  ∀(ks:List Nat) (l:List Oper) (listed:Array Bool) (a:Act) (w:World),C w->ks.map (ops[·]?)=l.map some->HeadInv md ops n listed->
  B4m md ops g n js ks listed=true->A9w P ops C (fun a'=>A6j P ops C Lq lt a' w) l a->
  B3r P md ops C n (fun listed' a' w'=>Region.seqB md ops g n listed'=true/\Lq a' w') (l.length+lt.length) listed a w
 | [],[],listed,a,w,_,_,_,hB,h=>by
  rw[List.length_nil,V9];exact B4Y js lt listed a w hlt (by simpa[B4m] using hB) h
 |k::ks,o::l,listed,a,w,hC,hl,inv,hB,h=>by
  simp only[U4,A4b]at hl;obtain⟨h0,hl'⟩:=hl;simp only[B4m,Q3,decide_eq_true_eq]at hB;obtain⟨⟨⟨hr,hf⟩,hkn⟩,hB'⟩:=hB;have hr':k∈Region.ready md ops listed:=by simpa using hr
  obtain⟨v,hy,hK⟩:=h;rw[show (o::l).length+lt.length=(l.length+lt.length)+1 by simp only[E9];omega];exact D3c h0 (Region.noSelect_spec hsel) hn (fun listed' a' w' hL=>seqB_ready hL.1) (l.length+lt.length) listed a w hC inv (Region.free_spec h0 hf) hr' hy
   (B6V hsel hn hlt ks l _ _ w hC hl' (inv.set hr' hkn) hB' hK)
 | [],_::_,_,_,_,_,hl,_,_,_=>by simp at hl
 |_::_,[],_,_,_,_,hl,_,_,_=>by simp at hl
def C1h (ops:Array Oper) (ks js:List Nat) (n:Nat):Bool:=
 Region.noSelect ops && decide (n=ops.size) && B4m .any ops (ops.size-n) n js ks (Array.replicate ops.size false) && decide (ks.length+js.length=n) &&
  ks.all (fun k=>Nat.blt k ops.size) && js.all (fun k=>Nat.blt k ops.size)
theorem B6m {id:Nat}{Q:Exit->Act->World->Prop}{a:Act}{w:World}{l:List Oper} (ks js:List Nat) (n:Nat) (hm:P.follows .mixedOrders=true) (hB:C1h l.toArray ks js n=true)
  (hC:C { w with drawn:=w.drawn+1})
  (h:A9w P l.toArray C (fun a'=>A6j P l.toArray C (fun a' w'=>wpList P l.toArray Q (l.drop n) a' w') (A4C l js) a' { w with drawn:=w.drawn+1}) (A4C l ks) a):(Code.region id l.toArray true).wp P Q a w:=by
 simp only[C1h,Q3,decide_eq_true_eq]at hB;obtain⟨⟨⟨⟨⟨hsel,hn⟩,hlex⟩,hlen⟩,hks⟩,hjs⟩:=hB;have hn':n=l.length:=by simpa using hn
 have hdl:(l.drop n).length=l.toArray.size-n:=by simp
 obtain⟨k1,k2⟩:=A54 l ks (by simpa using hks);obtain⟨j1,j2⟩:=A54 l js (by simpa using hjs);have inv0:HeadInv .any l.toArray n (Array.replicate l.toArray.size false):=
  ⟨by simp,fun j oj _ hl=>(by rw[getD_replicate_false]at hl;cases hl),fun t _ ht=>getD_in (by simpa using ht) (getD_replicate_false _ _)⟩
 have H:=B6V (md:=.any) (g:=l.toArray.size-n) (lt:=A4C l js) hsel hn j1 ks (A4C l ks) _ a _ hC k1 inv0 hlex h;refine wp_region_any hm ?_
 have:=B1M (Q':=Q) (g:=l.toArray.size-n) (fun listed a' w' hL=>by
  have:=wpAny_of_seq (md:=.any) (Q':=Q) (l.drop n) n listed a' w' (fun j=>by simp) (by rw[hdl];exact hL.1) hL.2
  rwa [hdl]at this) _ _ _ _ H
 rw[k2,j2,hlen,show n+(l.toArray.size-n)=l.toArray.size by omega]at this;exact this
end
section
variable {P:Program}{N:Nat}{ds:List Deferred}{X:List Nat}{Q:Exit->Act->World->Prop}{l:Log}{w:World}{os:List Oper}{E:Ent}{I:P8}{G R:List HItem}
theorem D3h [Mixed P] {id:Nat} (ks js:List Nat) (n:Nat) (X:List Nat) (hB:C1h os.toArray ks js n=true)
  (h:∀wd,Kept [] w wd->WV P N ds os.toArray X wd (fun a'=>A6j P os.toArray (fun w'=>Kept X wd w') (fun a' w'=>wpList P os.toArray Q (os.drop n) a' w') (A4C os js) a' wd) (A4C os ks) l):
  WC P N ds (.region id os.toArray true) Q l w:=
 ⟨fun a ha=>B6m (C:=fun w'=>Kept X { w with drawn:=w.drawn+1} w') ks js n Mixed.out hB (Kept.refl _ _) ((h _ (Kept.drew w)).run a ha)⟩
theorem A0B [Mixed P] {id:Nat} (hm:Mem E I (G++R) w) (ks js:List Nat) (n:Nat) (hB:C1h os.toArray ks js n=true)
  (h:∀wd,Mem E I (G++R) wd->Mem ⟨wd,A3N G,I⟩ I G wd->WV P N ds os.toArray (A3N G) wd (fun a'=>A6j P os.toArray (fun w'=>Kept (A3N G) wd w') (fun a' w'=>wpList P os.toArray Q (os.drop n) a' w') (A4C os js) a' wd) (A4C os ks) l):
  WC P N ds (.region id os.toArray true) Q l w:=
 D3h ks js n (A3N G) hB (fun wd hk=>h wd (hm.kept0 hk) (hm.kept0 hk).sub)
end
section
variable {P:Program}{N:Nat}{ds:List Deferred}{Q:Exit->Act->World->Prop}{X:List Nat}{l l':Log}{w w' w0:World}{ops:Array Oper}{os tail:List Oper}{o:Oper}
variable {d:Nat}{ty:TypeId}{pos:String}{af:Array Edge}{g:Option (Nat×Bool)}{t t':TypeId}{x y:Operand}{ik:IntKind}
theorem C3N {e:TypeId} [TySlice P t e] {b:Option Addr}{n c:Nat} (hC:Kept X w0 w) (hw:X9 ops l ⟨some d,.call ⟨.builtin .len, #[x], #[t]⟩,ty,pos,af,g⟩=some true) (hN:Nat.blt d N=true)
  (hx:ev l x=some (.slice b n c)) (k:WS P N ds ops Q X w0 os tail ((d,.int .i64 (n:Int))::l) w):
  WS P N ds ops Q X w0 (⟨some d,.call ⟨.builtin .len, #[x], #[t]⟩,ty,pos,af,g⟩::os) tail l w:=
 A5W rfl hw hN (fun a ha=>by
  have h1:=run_underlying (P:=P) (w:=w) (TySlice.out (P:=P) (t:=t));simp[execOp,resolve,invoke,builtin,Builtin.len_,ha.ev hx,h1,goInt]) hC k
theorem A7J {s u:List UInt8} (hC:Kept X w0 w) (hw:X9 ops l ⟨some d,.binOp .add t x y t',ty,pos,af,g⟩=some true) (hN:Nat.blt d N=true)
  (hx:ev l x=some (str s)) (hy:ev l y=some (str u)) (h:s.length+u.length<=9223372036854775807) (k:WS P N ds ops Q X w0 os tail ((d,str (s++u))::l) w):
  WS P N ds ops Q X w0 (⟨some d,.binOp .add t x y t',ty,pos,af,g⟩::os) tail l w:=
 A5W rfl hw hN (fun c hc=>by
  have h1:¬((s.length+u.length:Nat):Int)>IntKind.i64.max:=by simp[IntKind.max,IntKind.bits,IntKind.signed];omega
  simp only[execOp,hc.ev hx,hc.ev hy,eqGuard,binOp,Op.stringOp,A4h,B1j,if_neg h1];simp) hC k
end
end Go.Fw
namespace Go.Proofs
open Go.Proofs.Tryz
open Go.Sp
open Go.Fw
abbrev A8j (pb:Nat) (la:Option Addr) (lc:Nat) (T:Sp.Src) (s:Sp.St) (deep:Nat) (da:Option Addr) (dc:Nat):HItem:=
 .obj pb (.cells [.slice la T.l.length lc,nt s.i,nt T.size,.slice da s.ds.length dc,nt deep].toArray 203 (0,0))
abbrev QSt (pb:Nat) (la:Option Addr) (lc:Nat) (T:Sp.Src) (s:Sp.St) (deep:Nat) (da:Option Addr) (dc:Nat):List HItem:= [A8j pb la lc T s deep da dc,A6b s.ds da dc]
section
variable {I:P8}{pb deep lc dc:Nat}{la da:Option Addr}{T:Sp.Src}
theorem A2E (s:Sp.St) (hr:A4H I T la lc):CalR prog 104 #[ptr pb] I [A8j pb la lc T s deep da dc] (nt (T.tok s.i).pos):=by
 refine CalR.of fun w J hm hl hH hJ=>enter (N:=28) func104 rfl [(0,ptr pb)] A0Z rfl ?_
 have hp:=A98 (hH _ O4);rw[<-hJ]at hp;replace hr:=hr.le hl;by_cases hi:s.i<T.l.length
 ·have htk:=A59 hi
  repeat' (first|refine A0i ?_ (hr:=by exact hr) (he:=by intro _;rfl) (hz:=by exact htk);intro b1 o1 hp1|refine A0f ?_ hm|refine D6 ?_|refine E5 ?_|refine A7 ?_|refine H8 ?_|refine E8 ?_|refine A8 ?_|refine J3 ?_|refine J7 ?_|refine U6 ?_|refine A0s ?_;intro _ hkq;replace hm:=hm.kept0 hkq;clear hkq|(refine C9 (ht:=fun _=>?_) (hf:=fun _=>?_)<;>try first|contradiction|omega)|refine Y4 ?_|refine A1a ?_|refine A18 ?_|refine S9 ?_|refine Q9 ?_|refine L8 ?_)
  exact⟨rfl,hm.kept⟩
 ·have he:T.tok s.i=⟨0,[],T.size⟩:=A6A (by omega)
  rw[he];repeat' (first|refine J9 ?_ hm|refine A0f ?_ hm|refine D8 ?_|refine D6 ?_|refine F5 ?_|refine D5 ?_|refine E5 ?_|refine A7 ?_|refine E8 ?_|refine A8 ?_|refine G7 ?_|refine J3 ?_|refine J7 ?_|refine U6 ?_|refine A0s ?_;intro _ hkq;replace hm:=hm.kept0 hkq;clear hkq|(refine C9 (ht:=fun _=>?_) (hf:=fun _=>?_)<;>try first|contradiction|omega)|refine Y4 ?_|refine A18 ?_|refine S9 ?_|refine Q9 ?_|refine L8 ?_)
  exact⟨rfl,hm.kept⟩
theorem A33 (s:Sp.St) (hr:A4H I T la lc):CalR prog 134 #[ptr pb] I [A8j pb la lc T s deep da dc] (str (T.tok s.i).text):=by
 refine CalR.of fun w J hm hl hH hJ=>enter (N:=24) func134 rfl [(0,ptr pb)] A0Z rfl ?_
 have hp:=A98 (hH _ O4);rw[<-hJ]at hp;replace hr:=hr.le hl;by_cases hi:s.i<T.l.length
 ·have htk:=A59 hi
  repeat' (first|refine A0i ?_ (hr:=by exact hr) (he:=by intro _;rfl) (hz:=by exact htk);intro b1 o1 hp1|refine A0f ?_ hm|refine D6 ?_|refine E5 ?_|refine A7 ?_|refine H8 ?_|refine E8 ?_|refine A8 ?_|refine J3 ?_|refine J7 ?_|refine U6 ?_|refine A0s ?_;intro _ hkq;replace hm:=hm.kept0 hkq;clear hkq|(refine C9 (ht:=fun _=>?_) (hf:=fun _=>?_)<;>try first|contradiction|omega)|refine Y4 ?_|refine A1a ?_|refine A18 ?_|refine S9 ?_|refine Q9 ?_|refine L8 ?_)
  exact⟨rfl,hm.kept⟩
 ·have he:T.tok s.i=⟨0,[],T.size⟩:=A6A (by omega)
  rw[he];repeat' (first|refine A0f ?_ hm|refine D6 ?_|refine E5 ?_|refine A7 ?_|refine E8 ?_|refine A8 ?_|refine G7 ?_|refine J3 ?_|refine J7 ?_|refine U6 ?_|refine A0s ?_;intro _ hkq;replace hm:=hm.kept0 hkq;clear hkq|(refine C9 (ht:=fun _=>?_) (hf:=fun _=>?_)<;>try first|contradiction|omega)|refine Y4 ?_|refine A18 ?_|refine S9 ?_|refine Q9 ?_|refine L8 ?_)
  exact⟨rfl,hm.kept⟩
theorem A6O (s:Sp.St) (hr:A4H I T la lc) (hT:Ok T) (hi:s.i<=T.l.length):CalR prog 192 #[ptr pb] I [A8j pb la lc T s deep da dc] (nt (T.endOf s.i)):=by
 refine CalR.of fun w J hm hl hH hJ=>enter (N:=26) func192 rfl [(0,ptr pb)] A0Z rfl ?_
 have hp:=A98 (hH _ O4);rw[<-hJ]at hp;replace hr:=hr.le hl;have h1:=hT.at_ (s.i-1);have h2:=hT.size;have h3:=hT.len;by_cases h0:s.i=0
 ·rw[h0]at hp |-
  repeat' (first|refine J9 ?_ hm|refine D8 ?_|refine D6 ?_|refine O6 ?_|refine F5 ?_|refine D5 ?_|refine E5 ?_|refine A7 ?_|refine H8 ?_|refine E8 ?_|refine A8 ?_|refine J3 ?_|refine J7 ?_|refine H5 ?_)
  exact⟨rfl,hm.kept⟩
 ·have hlt:s.i-1<T.l.length:=by omega
  have htk:=A59 hlt;repeat' (first|refine A0R (id:=3) (hm.perm pm0) 11 12 (h:=?_);clear hm;intro wd hR hm|refine A39 ?_ (hr:=by exact hr) (he:=by intro _;rfl) (hz:=by rw[show ((s.i:Int)-1).toNat=s.i-1 by omega];exact htk);intro b1 o1 hp1|refine A0G ?_ hR|refine A1y ?_ hR|refine A4R (d:=3) ?_ hm;clear hm;intro b3 _ hm|refine A0K ?_;replace hm:=hR.back hm;clear hR;try simp only[G5]at hm|refine J6 ?_ hm|refine J9 ?_ hm|refine P6 ?_ hm;clear hm;intro _ hm;try simp only[G5]at hm|refine D8 ?_|refine D6 ?_|refine O6 ?_|refine A0m ?_|refine F5 ?_|refine O9 ?_|refine D5 ?_|refine E5 ?_|refine A7 ?_|refine E8 ?_|refine A8 ?_|refine G7 ?_|refine J3 ?_|refine J7 ?_|(refine C9 (ht:=fun _=>?_) (hf:=fun _=>?_)<;>try first|contradiction|omega)|refine A0x ?_|refine U5 ?_|refine D8n ?_|refine N8 ?_|refine A0y ?_)
  refine⟨?_,hm.kept⟩
  rw[Sp.Src.endOf,if_neg h0,nt,Int.natCast_add]
end
theorem B35 (c:UInt8) (w:World):
  Cal prog 116 #[.int .u8 (c.toNat:Int)] w fun v w'=>v=.bool (A0n c)/\w'=w:=by
 refine enter (N:=21) func116 rfl [(0,.int .u8 (c.toNat:Int))] A0Z rfl ?_
 repeat' (first|refine D8 ?_|refine D6 ?_|refine O0 ?_|refine N7 ?_|refine A82 ?_|refine A11 ?_|refine O6 ?_|refine A0z ?_|(refine O3 (h1:=fun _=>?_) (h0:=fun _=>?_)<;>try first|contradiction|omega)|refine E5 ?_|refine A7 ?_|refine E8 ?_|refine A8 ?_|refine J3 ?_|refine J7 ?_)
 all_goals (refine⟨congrArg Value.bool ?_,rfl⟩;unfold A0n;rw[A06];simp;omega)
theorem B6r (c:UInt8) (w:World):
  Cal prog 117 #[.int .u8 (c.toNat:Int)] w fun v w'=>v=.bool (A0C c)/\w'=w:=by
 refine enter (N:=9) func117 rfl [(0,.int .u8 (c.toNat:Int))] A0Z rfl ?_
 repeat' (first|refine D8 ?_|refine D6 ?_|refine O0 ?_|refine N7 ?_|refine A82 ?_|refine A11 ?_|refine A0z ?_|(refine O3 (h1:=fun _=>?_) (h0:=fun _=>?_)<;>try first|contradiction|omega)|refine E5 ?_|refine A7 ?_|refine E8 ?_|refine A8 ?_|refine J3 ?_|refine J7 ?_)
 all_goals (refine⟨congrArg Value.bool ?_,rfl⟩;unfold A0C;rw[A06];simp;omega)
theorem C6M (c:UInt8) (w:World):
  Cal prog 167 #[.int .u8 (c.toNat:Int)] w fun v w'=>v=.bool (A0I c)/\w'=w:=by
 refine enter (N:=13) func167 rfl [(0,.int .u8 (c.toNat:Int))] A0Z rfl ?_
 repeat' (first|refine D8 ?_|refine D6 ?_|refine O0 ?_|refine N7 ?_|refine O6 ?_|refine A0z ?_|(refine O3 (h1:=fun _=>?_) (h0:=fun _=>?_)<;>try first|contradiction|omega)|refine E5 ?_|refine A7 ?_|refine E8 ?_|refine A8 ?_|refine J3 ?_|refine J7 ?_)
 all_goals (refine⟨congrArg Value.bool ?_,rfl⟩;unfold A0I;rw[A06];simp;omega)
theorem D6c (c:UInt8) (w:World):
  Cal prog 170 #[.int .u8 (c.toNat:Int)] w fun v w'=>v=.bool (A6h c)/\w'=w:=by
 refine enter (N:=12) func170 rfl [(0,.int .u8 (c.toNat:Int))] A0Z rfl ?_
 repeat' (first|refine D8 ?_|refine D6 ?_|refine E5 ?_|refine A7 ?_|refine E8 ?_|refine A8 ?_|refine F6 ?_)
 refine U3 (fun k=> [(0,.int .u8 (c.toNat:Int)),(4,.int .i64 ((k:Nat):Int))]) (fun k w'=>w'=w/\k<=12/\∀j,j<k->Sp.A7k.getD j 0≠c) (fun k=>12-k) 0 ⟨rfl,rfl,trivial⟩ ⟨rfl,by omega,by omega⟩ ?_
 rintro k w ⟨rfl,hk,hn⟩;repeat' (first|refine D8 ?_|refine D6 ?_|refine J8 ?_|refine O6 ?_|refine O9 ?_|refine A2n ?_|refine E5 ?_|refine A7 ?_|refine H8 ?_|refine H6 ?_|refine D7 ?_|refine O5 ?_|refine G9 ?_|refine E8 ?_|refine A8 ?_|refine F6 ?_|refine G7 ?_|refine O8 ?_|refine J3 ?_|refine J7 ?_|(refine C9 (ht:=fun _=>?_) (hf:=fun _=>?_)<;>try first|contradiction|omega))
 ·refine⟨congrArg Value.bool (Eq.symm ?_),rfl⟩
  rename_i h1 h2
  have h3:Sp.A7k.getD k 0=c:=toNat_inj h2;have h4:k<Sp.A7k.length:=by simp[A7k];omega
  unfold A6h
  rw[A8Y];refine⟨c,?_,by simp⟩
  rw[<-h3,N9,F9 h4];exact O1 h4
 ·rename_i h1 h2
  refine L6 (k+1) ⟨rfl,rfl,trivial⟩ ⟨rfl,by omega,fun j hj=>?_⟩ (by omega)
  by_cases hjk:j=k
  ·subst hjk;exact fun e=>h2 (by rw[<-e];rfl)
  ·exact hn j (by omega)
 ·refine⟨congrArg Value.bool (Eq.symm ?_),rfl⟩
  rename_i h1
  obtain rfl:k=12:=by omega
  unfold A6h
  rw[B0S];intro x hx;obtain⟨j,hj,rfl⟩:=List.mem_iff_getElem.1 hx;have:=hn j (by simpa[A7k] using hj);rw[N9,F9 hj]at this;simpa using this
theorem D0a (c:UInt8) (w:World):
  Cal prog 168 #[.int .u8 (c.toNat:Int)] w fun v w'=>v=.bool (A6M c)/\w'=w:=by
 refine enter (N:=5) func168 rfl [(0,.int .u8 (c.toNat:Int))] A0Z rfl ?_
 repeat' (first|refine D8 ?_|refine D6 ?_|refine A0w ?_|refine E5 ?_|refine A7 ?_|refine E8 ?_|refine A8 ?_|refine J3 ?_|refine J7 ?_)
 all_goals (refine⟨congrArg Value.bool ?_,rfl⟩;unfold A6M;rw[A06];simp;omega)
theorem C99 (c:UInt8) (w:World):
  Cal prog 169 #[.int .u8 (c.toNat:Int)] w fun v w'=>v=.bool (A01 c)/\w'=w:=by
 refine enter (N:=9) func169 rfl [(0,.int .u8 (c.toNat:Int))] A0Z rfl ?_
 repeat' (first|refine A0r (hc:=by exact B35 c _) (k:=?_);rintro _ _ ⟨rfl,rfl⟩|refine A0r (hc:=by exact B6r c _) (k:=?_);rintro _ _ ⟨rfl,rfl⟩|refine D8 ?_|refine D6 ?_|refine O0 ?_|refine N7 ?_|refine A0z ?_|refine A3u (h1:=fun _=>?_) (h0:=fun _=>?_)<;>fail_if_success contradiction|refine E5 ?_|refine A7 ?_|refine E8 ?_|refine A8 ?_|refine J3 ?_|refine J7 ?_)
 all_goals (refine⟨congrArg Value.bool ?_,rfl⟩;unfold A01;simp[*])
theorem C0r (fi:FuncId) [Own prog fi] (F:UInt8->Bool) (hF:∀c w,Cal prog fi #[.int .u8 (c.toNat:Int)] w fun v w'=>v=.bool (F c)/\w'=w)
  (s:List UInt8) (hs:s≠ []) (hl:s.length<=9223372036854775807) (b:Nat) (w:World) (hb:w.heap[b]?=some (.cells (str s).cells 9 (0,0))):
  Cal prog 166 #[.func (.func fi) #[] #[],.pointer (some ⟨b,0,none⟩)] w fun v w'=>v=.int .i64 (Sp.run F s.tail:Int)/\w'=w:=by
 have hs':0<s.length:=A24.2 hs;refine enter (N:=19) func166 rfl [(0,.func (.func fi) #[] #[]),(1,.pointer (some ⟨b,0,none⟩))] A1x rfl ?_
 repeat' (first|refine D6 ?_|refine E5 ?_|refine A7 ?_|refine E8 ?_|refine A8 ?_|refine F6 ?_)
 refine U3 (fun k=> [(0,.func (.func fi) #[] #[]),(1,.pointer (some ⟨b,0,none⟩)),(4,.int .i64 ((k:Nat):Int))])
  (fun k w'=>w'=w/\1<=k/\k<=s.length/\∀j,1<=j->j<k->F (s.getD j 0)=true) (fun k=>s.length-k) 1 ⟨rfl,rfl,rfl,trivial⟩ ⟨rfl,by omega,by omega,by omega⟩ ?_
 rintro k w ⟨rfl,hk0,hk,hn⟩;repeat' (first|refine B0g (hc:=by exact hF _ _) (k:=?_);rintro _ _ ⟨rfl,rfl⟩|refine D8 ?_|refine D6 ?_|refine O0 ?_|refine N7 ?_|refine J8 ?_|refine A0m ?_|refine O9 ?_|refine A2n ?_|refine A1K (k:=?_)|refine A0z ?_|(refine O3 (h1:=fun _=>?_) (h0:=fun _=>?_)<;>try first|contradiction|omega)|refine E5 ?_|refine A7 ?_|refine H6 ?_|refine D7 ?_|refine G9 ?_|refine E8 ?_|refine A8 ?_|refine F6 ?_|refine G7 ?_|refine O8 ?_|refine J3 ?_|refine J7 ?_|refine F7 ?_|refine A2e (ht:=fun _=>?_) (hf:=fun _=>?_))
 ·rename_i h1 h2
  refine L6 (k+1) ⟨rfl,rfl,rfl,trivial⟩ ⟨rfl,by omega,by omega,fun j h3 h4=>?_⟩ (by omega)
  by_cases hjk:j=k
  ·subst hjk;exact h2
  ·exact hn j h3 (by omega)
 ·rename_i h1 h2
  refine⟨?_,rfl⟩
  rw[D2k F s k hk0 hn hk (.inr h2)]
 ·rename_i h1
  refine⟨?_,rfl⟩
  rw[D2k F s k hk0 hn hk (.inl (by omega))]
theorem D7N (s:List UInt8) (hs:s≠ []) (hl:s.length<=9223372036854775807) (w:World):
  Cal prog 133 #[str s] w fun v w'=>v=.tuple #[.int .i64 ((Sp.one s).1:Int),.int .i64 ((Sp.one s).2:Int)]/\Kept [] w w':=by
 have hs':0<s.length:=A24.2 hs;refine enter (N:=32) func133 rfl [(0,str s)] A0Z rfl ?_
 repeat' (first|refine D1J (k:=?_);intro b w1 hbe hb hk|refine A0r (hc:=by exact C6M _ _) (k:=?_);rintro _ _ ⟨rfl,rfl⟩|refine A0r (hc:=by exact B35 _ _) (k:=?_);rintro _ _ ⟨rfl,rfl⟩|refine A0r (hc:=by exact B6r _ _) (k:=?_);rintro _ _ ⟨rfl,rfl⟩|refine A0r (hc:=by exact D6c _ _) (k:=?_);rintro _ _ ⟨rfl,rfl⟩|refine B0g (hc:=by exact C0r _ A0I C6M s hs hl _ _ (by assumption)) (k:=?_);rintro _ _ ⟨rfl,rfl⟩|refine B0g (hc:=by exact C0r _ A6M D0a s hs hl _ _ (by assumption)) (k:=?_);rintro _ _ ⟨rfl,rfl⟩|refine B0g (hc:=by exact C0r _ A01 C99 s hs hl _ _ (by assumption)) (k:=?_);rintro _ _ ⟨rfl,rfl⟩|refine B0g (hc:=by exact C0r _ A0C B6r s hs hl _ _ (by assumption)) (k:=?_);rintro _ _ ⟨rfl,rfl⟩|refine D8 ?_|refine D6 ?_|refine O6 ?_|refine A2v ?_|refine A2n ?_|refine A1K (k:=?_)|refine E5 ?_|refine A7 ?_|refine H8 ?_|refine D7 ?_|refine O5 ?_|refine E8 ?_|refine A8 ?_|refine F6 ?_|refine G7 ?_|refine J3 ?_|refine A4E ?_|(refine C9 (ht:=fun _=>?_) (hf:=fun _=>?_)<;>try first|contradiction|omega)|refine A2e (ht:=fun _=>?_) (hf:=fun _=>?_))
 all_goals
  refine⟨?_,hk⟩
  cases s with
  |nil=>exact absurd rfl hs
  |cons c r=>
   simp only[List.getD_cons_zero,Int.toNat_zero,List.tail_cons]at *;have e:∀m:Nat,((m:Int)=35↔m=35):=fun m=>by omega
   simp_all [Sp.one]
structure TokLoop where
 at_:Nat
 out:Value
 acc:List Sp.Tok
theorem C17 (s:List UInt8) (hl:s.length<=1099511627776) (w:World):
  Cal prog 101 #[str s] w fun v w'=>w'.ownsRow w.heap.size 62 3 v (Q5 s).length ((Q5 s).flatMap A2a)/\Kept [] w w':=by
 refine enter (N:=36) func101 rfl [(0,str s)] A0Z rfl ?_
 repeat' (first|refine D6 ?_|refine E5 ?_|refine A7 ?_|refine E8 ?_|refine A8 ?_|refine F6 ?_)
 refine U3 (fun x:TokLoop=> [(0,str s),(3,x.out),(4,.int .i64 (x.at_:Int))])
  (fun x w'=>x.at_<=s.length/\x.acc.length<=x.at_/\x.acc++A3F s x.at_=Q5 s/\w'.ownsRow w.heap.size 62 3 x.out x.acc.length (x.acc.flatMap A2a)/\Kept [] w w')
  (fun x=>s.length-x.at_) ⟨0,.slice none 0 0,[]⟩ ⟨rfl,rfl,rfl,trivial⟩ ⟨by simp,by simp,by simp[A8F],World.ownsRow_nil _ _ _ _,Kept.refl _ _⟩ ?_
 rintro⟨k,out,acc⟩ w1 ⟨hk,hacc,heq,hown,hkept⟩;dsimp only at hk hacc heq hown hkept |-;have hone:=fun h:s.drop k≠ []=>A6N _ h
 have hstep:=fun h:k<s.length=>A46 s k h
 repeat' (first|refine A0r (hc:=by exact D7N (s.drop k) (by simp;omega) (by simp;omega) _) (k:=?_);rintro _ w2 ⟨rfl,hk2⟩;have h1:=hone (by simp;omega);simp only[A0v]at h1|refine A7I (hown:=by exact hk2.own hown (by simp)) (hbase:=by have:=hkept.size;have:=hk2.size;omega) (k:=?_);intro v3 w3 hown3 hk3 hb3|refine D8 ?_|refine D6 ?_|refine J8 ?_|refine A1H ?_|refine A0m ?_|refine Y8 ?_|refine O9 ?_|refine A8u ?_|refine A9P ?_|refine Y0 ?_|refine E5 ?_|refine A7 ?_|refine H6 ?_|refine D7 ?_|refine G9 ?_|refine E8 ?_|refine A8 ?_|refine F6 ?_|refine G7 ?_|refine O8 ?_|refine J3 ?_|refine J7 ?_|(refine C9 (ht:=fun _=>?_) (hf:=fun _=>?_)<;>try first|contradiction|omega))
 ·rename_i h0 h2
  have hst:=hstep (by omega);rw[if_pos (by omega)]at hst;refine L6 (⟨k+(Sp.one (s.drop k)).2,v3,acc++ [⟨(Sp.one (s.drop k)).1,(s.drop k).take (Sp.one (s.drop k)).2,k⟩]⟩:TokLoop) (by exact⟨rfl,rfl,rfl,trivial⟩) ?_ ?_
  ·refine⟨by dsimp only;omega,by simp;omega,by rw[<-heq,hst];simp,?_,?_⟩
   ·have e:((k:Int)+((Sp.one (s.drop k)).2:Int)).toNat-(k:Int).toNat=(Sp.one (s.drop k)).2:=by omega
    rw[e]at hown3;simpa[A2a,X0,Value.cells] using hown3
   ·exact(hkept.step0 hk2).step hk3 (fun x hx=> .inr (by
     cases ho:out.ownBlock with
     |none=>simp[ho]at hx
     |some g=>simp[ho]at hx;subst hx;exact(hown.lt _ ho).1))
  ·dsimp only;omega
 ·rename_i h0 h2
  have hst:=hstep (by omega);rw[if_neg (by omega),L9]at hst;refine L6 (⟨k+(Sp.one (s.drop k)).2,out,acc⟩:TokLoop) (by exact⟨rfl,rfl,rfl,trivial⟩) ?_ ?_
  ·exact⟨by dsimp only;omega,by dsimp only;omega,by rw[<-heq,hst],hk2.own hown (by simp),hkept.step0 hk2⟩
  ·dsimp only;omega
 ·rename_i h0
  rw[A5V s k (by omega),J4]at heq;rw[<-heq];exact⟨hown,hkept⟩
theorem D7O (w:World):Cal prog 82 #[] w fun v w'=>w'.ownsRow w.heap.size 9 1 v 9 (Sp.A8b.map str)/\Kept [] w w':=by
 refine enter (N:=2) func82 rfl [] C1Y rfl ?_
 repeat' (first|refine A7R (by rfl) (by rfl) (by rfl) (by rfl) (by rfl) (by decide) ?_;intro b w1 hbe hb hk|refine D6 ?_|refine E5 ?_|refine A7 ?_|refine E8 ?_|refine A8 ?_|refine J3 ?_|refine J7 ?_)
 exact⟨C05 hb (by rfl) (by omega) (by decide),hk⟩
theorem D6d (s:List UInt8) (hl:s.length<=9223372036854775807) (w:World):Cal prog 83 #[str s] w fun v w'=>v=.bool (A9l s)/\w'=w:=by
 refine enter (N:=36) func83 rfl [(0,str s)] A0Z rfl ?_
 repeat' (first|refine A0r (hc:=by exact B35 _ _) (k:=?_);rintro _ w ⟨rfl,rfl⟩|refine D8 ?_|refine D6 ?_|refine O0 ?_|refine N7 ?_|refine J8 ?_|refine A1H ?_|refine A0m ?_|refine A0h ?_|refine A2n ?_|refine A0z ?_|(refine O3 (h1:=fun _=>?_) (h0:=fun _=>?_)<;>try first|contradiction|omega)|refine E5 ?_|refine A7 ?_|refine H8 ?_|refine E8 ?_|refine A8 ?_|refine F6 ?_|refine G7 ?_|refine J3 ?_|refine J7 ?_|refine H5 ?_|refine A2e (ht:=fun _=>?_) (hf:=fun _=>?_))
 ·refine⟨?_,rfl⟩;rename_i h;rw[show A9l s=false by simp[A9l];omega]
 ·refine⟨?_,rfl⟩;rename_i h h1;rw[show A9l s=false by simp[A9l];omega]
 ·refine⟨?_,rfl⟩;rename_i h h1 h2;have h2':A0n (s.getD 0 0)=false:=by simpa using h2
  rw[show A9l s=false by unfold A9l;rw[h2'];simp]
 ·rename_i h0 h1 h2
  have h2':A0n (s.getD 0 0)=true:=by simpa using h2
  refine U3 (fun k=> [(0,str s),(19,.int .i64 (s.length:Int)),(20,.int .i64 ((k:Nat):Int))]) (fun k w'=>w'=w/\k<=s.length/\∀j,j<k->A01 (s.getD j 0)=true) (fun k=>s.length-k) 0 ⟨rfl,rfl,rfl,trivial⟩ ⟨rfl,by omega,by omega⟩ ?_
  rintro k w ⟨rfl,hk,hn⟩;repeat' (first|refine A0r (hc:=by exact B35 _ _) (k:=?_);rintro _ w ⟨rfl,rfl⟩|refine A0r (hc:=by exact B6r _ _) (k:=?_);rintro _ w ⟨rfl,rfl⟩|refine D8 ?_|refine D6 ?_|refine O0 ?_|refine N7 ?_|refine J8 ?_|refine A0h ?_|refine O9 ?_|refine A2n ?_|refine A0z ?_|refine A3u (h1:=fun _=>?_) (h0:=fun _=>?_)<;>fail_if_success contradiction|refine E5 ?_|refine A7 ?_|refine H8 ?_|refine H6 ?_|refine D7 ?_|refine O5 ?_|refine G9 ?_|refine E8 ?_|refine A8 ?_|refine F6 ?_|refine G7 ?_|refine O8 ?_|refine J3 ?_|refine J7 ?_|refine F7 ?_|(refine C9 (ht:=fun _=>?_) (hf:=fun _=>?_)<;>try first|contradiction|omega)|refine A2e (ht:=fun _=>?_) (hf:=fun _=>?_))
  ·rename_i h3 h4 h5
   refine⟨?_,rfl⟩
   rw[D5t (k:=k) (by omega) (by simp at h4 h5;simp[A01,h4,h5])]
  ·rename_i h3 h4 h5
   refine L6 (k+1) (by exact⟨rfl,rfl,rfl,trivial⟩) ⟨rfl,by omega,fun j hj=>?_⟩ (by omega)
   by_cases hjk:j=k
   ·subst hjk;simp at h5;simp[A01,h5]
   ·exact hn j (by omega)
  ·rename_i h3 h4
   refine L6 (k+1) (by exact⟨rfl,rfl,rfl,trivial⟩) ⟨rfl,by omega,fun j hj=>?_⟩ (by omega)
   by_cases hjk:j=k
   ·subst hjk;simp at h4;simp[A01,h4]
   ·exact hn j (by omega)
  ·rename_i h3
   refine⟨?_,rfl⟩
   have ha:s.all A01=true:=(C6H _ _).2 (fun j hj=>hn j (by omega));rw[show A9l s=true by unfold A9l;rw[h2',ha];simp;omega]
theorem B1O (s:List UInt8) (hl:s.length<=9223372036854775807) (w:World):Cal prog 51 #[str s] w fun v w'=>v=.bool (Sp.name s)/\Kept [] w w':=by
 refine enter (N:=17) func51 rfl [(0,str s)] A0Z rfl ?_
 repeat' (first|refine A0r (hc:=by exact D7O _) (k:=?_);rintro _ w1 ⟨hown,hk1⟩;obtain⟨g,cap,cur,rfl,hbg,hg,hcap,hcur,_⟩:=B4p hown (by decide)|refine D8 ?_|refine D6 ?_|refine G6 ?_|refine E5 ?_|refine A7 ?_|refine E8 ?_|refine A8 ?_|refine F6 ?_)
 refine U3 (fun k=> [(0,str s),(5,.slice (some ⟨g,0,none⟩) 9 cap),(6,.int .i64 9),(7,.int .i64 ((k:Nat):Int))]) (fun k w'=>w'=w1/\k<=9/\∀j,j<k->s≠Sp.A8b.getD j []) (fun k=>9-k) 0 ⟨rfl,rfl,rfl,rfl,trivial⟩ ⟨rfl,by omega,by omega⟩ ?_
 rintro k w1 ⟨rfl,hk,hn⟩;have hcell:k<9->cur[0+(k:Int).toNat *1]?=some (str (Sp.A8b.getD k [])):=fun h=>hcur _ _ (by
  have h9:k<Sp.A8b.length:=h;simp[F9 h9])
 repeat' (first|refine A1K (hc:=by exact hcell (by omega)) (k:=?_)|refine A0r (hc:=by exact D6d s hl _) (k:=?_);rintro _ w ⟨rfl,rfl⟩|refine D8 ?_|refine D6 ?_|refine J8 ?_|refine A0g ?_|refine O9 ?_|refine Y3 (k:=?_)|refine E5 ?_|refine A7 ?_|refine H8 ?_|refine H6 ?_|refine D7 ?_|refine O5 ?_|refine G9 ?_|refine E8 ?_|refine A8 ?_|refine F6 ?_|refine G7 ?_|refine O8 ?_|refine J3 ?_|refine J7 ?_|(refine C9 (ht:=fun _=>?_) (hf:=fun _=>?_)<;>try first|contradiction|omega))
 ·rename_i h0 h1
  refine⟨?_,hk1⟩
  have h9:k<Sp.A8b.length:=show k<9 by omega
  have:Sp.A8b.any (fun w=>decide (s=w))=true:=by
   rw[A8Y];exact⟨_,O1 h9,by rw[h1,N9,F9 h9];simp⟩
  simp only[Sp.name,this,A78,A5I]
 ·rename_i h0 h1
  refine L6 (k+1) (by exact⟨rfl,rfl,rfl,rfl,trivial⟩) ⟨rfl,by omega,fun j hj=>?_⟩ (by omega)
  by_cases hjk:j=k
  ·subst hjk;exact h1
  ·exact hn j (by omega)
 ·rename_i h0
  refine⟨?_,hk1⟩
  have:Sp.A8b.any (fun w=>decide (s=w))=false:=by
   rw[B0S];intro x hx;obtain⟨j,hj,rfl⟩:=List.mem_iff_getElem.1 hx;have:=hn j (by have:j<9:=hj;omega);rw[N9,F9 hj]at this;simpa using this
  simp only[Sp.name,this,Bool.not_false,A3M]
structure CLoop where
 at_:Nat
 out:Value
 acc:List Nat
theorem C98 (s:List UInt8) (hl:s.length<=1099511627776) (w:World):
  Cal prog 70 #[str s] w fun v w'=>w'.ownsRow w.heap.size 3 1 v (A0l s).length ((A0l s).flatMap A2K)/\Kept [] w w':=by
 refine enter (N:=53) func70 rfl [(0,str s)] A0Z rfl ?_
 repeat' (first|refine A0r (hc:=by exact C17 s hl _) (k:=?_);rintro tv w1 ⟨htv,hk1⟩;obtain⟨ta,tc,rfl⟩:=A5f htv|refine D8 ?_|refine D6 ?_|refine G6 ?_|refine E5 ?_|refine A7 ?_|refine E8 ?_|refine A8 ?_|refine F6 ?_)
 have htl:=A8f s;refine U3 (fun x:CLoop=> [(0,str s),(3,x.out),(8,.slice ta (Q5 s).length tc),(9,.int .i64 ((Q5 s).length:Int)),(10,.int .i64 (x.at_:Int))])
  (fun x w'=>x.at_<=(Q5 s).length/\x.acc.length<=x.at_/\x.acc=((Q5 s).take x.at_).foldl (A1V s) []/\w'.ownsRow w1.heap.size 3 1 x.out x.acc.length (x.acc.flatMap A2K)/\Kept [] w1 w')
  (fun x=>(Q5 s).length-x.at_) ⟨0,.slice none 0 0,[]⟩ ⟨rfl,rfl,rfl,rfl,rfl,trivial⟩ ⟨by simp,by simp,by simp,World.ownsRow_nil _ _ _ _,Kept.refl _ _⟩ ?_
 rintro⟨k,out,acc⟩ w2 ⟨hk,hacc,heq,hown,hkept⟩;dsimp only at hk hacc heq hown hkept |-;by_cases hlt:k<(Q5 s).length
 ·obtain⟨g,cap,cur,htve,hbg,hg,hcap,hcur,hsz⟩:=B4p htv (by omega)
  injection htve with e1 e2 e3
  subst e1;have hg2:=hkept.get0 hg;have htok:(Q5 s)[k]?=some (Q5 s)[k]:=F9 hlt;have hok:=A2C s _ (O1 hlt);have hfold:=C8A (A1V s) [] _ _ _ htok;have hcell:∀(j:Nat) (v:Value),(A2a (Q5 s)[k])[j]?=some v->cur[0+(k:Int).toNat *3+j]?=some v:=fun j v hv=>by
   rw[show 0+(k:Int).toNat *3+j=k *3+j by omega];exact hcur _ _ (C4J _ _ _ htok j v hv)
  generalize (Q5 s)[k]=t at htok hok hfold hcell;have hp1:=hok.pos;obtain⟨oa,oc,rfl⟩:=A5f hown;repeat' (first|refine B7S (vs:=A2a t) (hb:=hg2) (hc:=hcell) (k:=?_)|refine D1N (k:=?_);intro b w3 hbe hb hkb|refine A7I (hown:=by exact hkb.own hown (by simp)) (hbase:=by have:=hkept.size;have:=hkb.size;omega) (k:=?_);intro v3 w4 hown3 hk3 hb3|refine D8 ?_|refine D6 ?_|refine O0 ?_|refine N7 ?_|refine J8 ?_|refine O6 ?_|refine A0g ?_|refine G6 ?_|refine O9 ?_|refine A5e ?_|refine A2n ?_|refine D5 ?_|refine Y3 (k:=?_)|refine A1K (k:=?_)|refine A0z ?_|(refine O3 (h1:=fun _=>?_) (h0:=fun _=>?_)<;>try first|contradiction|omega)|refine E5 ?_|refine A7 ?_|refine D7 ?_|refine E8 ?_|refine A8 ?_|refine F6 ?_|refine G7 ?_|refine H5 ?_|(refine C9 (ht:=fun _=>?_) (hf:=fun _=>?_)<;>try first|contradiction|omega))
  all_goals
   have e10:((t.pos:Int)-1).toNat=t.pos-1:=by omega
   rw[<-heq]at hfold
  all_goals first
   |(have hst:A7x s t=true\/acc= []:=by
      simp only[A7x,Q3,A1f,decide_eq_true_eq, <-e10];simp only[Sp.wFn,B6a];first
       |exact .inr (A05 (by omega))
       |exact .inl ⟨⟨by omega,.inl (by assumption)⟩,by omega⟩
       |exact .inl ⟨⟨by omega,.inr (by assumption)⟩,by omega⟩
     rw[A1V,if_pos hst]at hfold;refine L6 (⟨k+1,v3,acc++ [t.pos]⟩:CLoop) (by exact⟨rfl,rfl,rfl,rfl,rfl,trivial⟩) ?_ (by dsimp only;omega)
     refine⟨by dsimp only;omega,by simp;omega,hfold.symm,?_,?_⟩
     ·simpa[A2K,X0,Value.cells,A2a] using hown3
     ·exact(hkept.step0 hkb).step hk3 (fun x hx=> .inr (by
      cases oa with
      |none=>simp[Value.ownBlock]at hx
      |some a=>simp[Value.ownBlock]at hx;subst hx;exact(hown.lt _ rfl).1)))
   |(have hst:¬(A7x s t=true\/acc= []):=by
      rintro(h|h)
      ·simp only[A7x,Q3,A1f,decide_eq_true_eq, <-e10]at h
       simp only[Sp.wFn,B6a]at h;obtain⟨⟨h1,h2⟩,h3⟩:=h;rcases h2 with h2|h2<;>first|omega|exact absurd h2 (by assumption)
      ·have h0:acc.length=0:=by rw[h];rfl
       omega
     rw[A1V,if_neg hst]at hfold;refine L6 (⟨k+1,.slice oa acc.length oc,acc⟩:CLoop) (by exact⟨rfl,rfl,rfl,rfl,rfl,trivial⟩) ?_ (by dsimp only;omega)
     exact⟨by dsimp only;omega,by dsimp only;omega,hfold.symm,hkb.own hown (by simp),hkept.step0 hkb⟩)
 ·have hkk:k=(Q5 s).length:=by omega
  have hcs:A0l s=acc:=by rw[heq,hkk,V7];rfl
  repeat' (first|refine D8 ?_|refine D6 ?_|refine J8 ?_|refine E5 ?_|refine A7 ?_|refine H6 ?_|refine G9 ?_|refine E8 ?_|refine A8 ?_|refine O8 ?_|refine J3 ?_|refine J7 ?_|(refine C9 (ht:=fun _=>?_) (hf:=fun _=>?_)<;>try first|contradiction|omega))
  rw[hcs];exact⟨A51 hown hk1.size,hk1.trans hkept⟩
abbrev ToQ (pb:Nat) (la:Option Addr) (lc:Nat) (T:Sp.Src) (deep:Nat) (I:P8) (s:Sp.St) (val:Value):Value->P8->List HItem->Prop:=
 fun v I' H'=>v=val/\I=I'/\∃da dc,H'=QSt pb la lc T s deep da dc
theorem C1M (pb:Nat) (la:Option Addr) (lc:Nat) (T:Sp.Src) (s:Sp.St) (g:Sp.Dg) (deep:Nat) (da:Option Addr) (dc:Nat):
  [.obj pb (.cells [.slice la T.l.length lc,nt s.i,nt T.size,.slice da (s.ds.length+1) dc,nt deep].toArray 203 (0,0)),.row (.slice da (s.ds.length+1) dc) 85 4 (s.ds.length+1) (s.ds.flatMap A5F++A5F g)]=QSt pb la lc T ⟨s.i,s.ds++ [g]⟩ deep da dc:=by
 simp
section
variable {I:P8}{pb deep lc dc:Nat}{la da:Option Addr}{T:Sp.Src}
theorem A2j (s:Sp.St) (t:List UInt8) (_ht:t≠ []) (hr:A4H I T la lc) (hT:Ok T) (hi:s.i<=T.l.length):
  CalM prog 102 #[ptr pb,str t] I (QSt pb la lc T s deep da dc) (ToQ pb la lc T deep I (if T.is s.i t=true then s.next else s) (.bool (T.is s.i t))):=by
 refine CalM.of fun w E hm=>enter (N:=28) func102 rfl [(0,ptr pb),(1,str t)] A1x rfl ?_
 have h2:=hT.size;have h3:=hT.len;by_cases hq:T.is s.i t=true
 ·have hlt:=A22 hq
  have hte:(T.tok s.i).text=t:=by simp only[Sp.Src.is,Q3,decide_eq_true_eq]at hq;exact hq.2
  rw[if_pos hq,hq];have hpk:=A33 (pb:=pb) (deep:=deep) (da:=da) (dc:=dc) s hr;rw[hte]at hpk;repeat' (first|refine A0P ?_ hm (hc:=hpk)|refine J6 ?_ hm|refine V3 ?_ hm|refine P5 hm (k:=?_);clear hm;intro _ hm;try simp only[G5]at hm|refine D8 ?_|refine D6 ?_|refine F5 ?_|refine O9 ?_|refine D5 ?_|refine E5 ?_|refine A7 ?_|refine E8 ?_|refine A8 ?_|refine G7 ?_|refine J3 ?_|refine J7 ?_|refine U6 ?_|refine A0s ?_;intro _ hkq;replace hm:=hm.kept0 hkq;clear hkq|(refine C9 (ht:=fun _=>?_) (hf:=fun _=>?_)<;>try first|contradiction|omega)|refine Y4 ?_|refine A0A ?_|refine A9x ?_|refine A0Q ?_|refine S9 ?_|refine Q9 ?_|refine L8 ?_|(refine X3 (fun _=>?_) (h1:=fun _=>?_)<;>try first|contradiction|omega))
  all_goals try (exfalso;first|omega|simp_all;done)
  exact⟨I,_,⟨rfl,rfl,da,dc,rfl⟩,hm⟩
 ·rw[if_neg hq,show T.is s.i t=false by simpa using hq]
  by_cases hlt:s.i<T.l.length
  ·have hte:(T.tok s.i).text≠t:=by
    intro e;exact hq (by simp[Sp.Src.is,hlt,e])
   repeat' (first|refine A0P ?_ hm (hc:=A33 s hr)|refine D6 ?_|refine E5 ?_|refine A7 ?_|refine H8 ?_|refine E8 ?_|refine A8 ?_|refine J3 ?_|refine J7 ?_|refine U6 ?_|refine A0s ?_;intro _ hkq;replace hm:=hm.kept0 hkq;clear hkq|refine H5 ?_|refine Y4 ?_|refine A0d ?_|refine A0Q ?_|refine A2z ?_|(refine X3 (fun _=>?_) (h1:=fun _=>?_)<;>try first|contradiction|omega))
   all_goals try (exfalso;first|omega|simp_all;done)
   all_goals exact⟨I,_,⟨rfl,rfl,da,dc,rfl⟩,hm⟩
  ·have hei:s.i=T.l.length:=by omega
   repeat' (first|refine A0P ?_ hm (hc:=A33 s hr)|refine V3 ?_ hm|refine D6 ?_|refine E5 ?_|refine A7 ?_|refine H8 ?_|refine E8 ?_|refine A8 ?_|refine J3 ?_|refine J7 ?_|refine U6 ?_|refine A0s ?_;intro _ hkq;replace hm:=hm.kept0 hkq;clear hkq|refine H5 ?_|(refine C9 (ht:=fun _=>?_) (hf:=fun _=>?_)<;>try first|contradiction|omega)|refine Y4 ?_|refine A0d ?_|refine A0A ?_|refine A9x ?_|refine A0Q ?_|refine S9 ?_|refine Q9 ?_|refine L8 ?_|refine A2z ?_|(refine X3 (fun _=>?_) (h1:=fun _=>?_)<;>try first|contradiction|omega))
   all_goals try (exfalso;first|omega|simp_all;done)
   all_goals exact⟨I,_,⟨rfl,rfl,da,dc,rfl⟩,hm⟩
theorem A6i (s:Sp.St) (e:Nat) (hr:A4H I T la lc) (hT:Ok T) (hi:s.i<=T.l.length) (hd:s.ds.length<1099511627776):
  CalM prog 108 #[ptr pb,nt e] I (QSt pb la lc T s deep da dc) (ToQ pb la lc T deep I (s.bad T e) (.tuple #[])):=by
 refine CalM.of fun w E hm=>enter (N:=59) func108 rfl [(0,ptr pb),(1,nt e)] A1x rfl ?_
 have h1:=hT.at_ s.i;have h2:=hT.size;have h3:=hT.len;by_cases hlt:s.i<T.l.length
 ·have htk:=A59 hlt
  repeat' (first|refine A0i ?_ (hr:=by exact hr) (he:=by intro _;rfl) (hz:=by exact htk);intro b1 o1 hp1|refine A0S (id:=3) (hm.perm pm1_1) [0,1,2,3,4,5,7,8,9] [6,10,11,12,13] 14 (h:=?_);clear hm;intro wd hR hm|refine A5m (d:=53) ?_ hR hm (hc:=A33 s hr);clear hm;intro _ hm|refine A5m (d:=49) ?_ hR hm (hc:=A2E s hr);clear hm;intro _ hm|refine A0k ?_ hR|refine A7H ?_ hm|refine A3b (d:=56) ?_ hm;clear hm;intro a56 cp56 _ _ hm;replace hm:=hR.back hm;clear hR;try simp only[G5]at hm|refine J6 ?_ hm|refine V3 ?_ hm|refine A0f ?_ hm|refine P5 hm (k:=?_);clear hm;intro _ hm;try simp only[G5]at hm|refine D8 ?_|refine D6 ?_|refine F5 ?_|refine D5 ?_|refine E5 ?_|refine A7 ?_|refine E8 ?_|refine A8 ?_|refine A0p ?_|refine U6 ?_|refine A0s ?_;intro _ hkq;replace hm:=hm.kept0 hkq;clear hkq|(refine C9 (ht:=fun _=>?_) (hf:=fun _=>?_)<;>try first|contradiction|omega)|refine Y4 ?_|refine A1a ?_|refine A18 ?_|refine A2b ?_|refine S9 ?_|refine Q9 ?_|refine A31 ?_|refine L8 ?_|refine A0x ?_|refine U5 ?_|refine N8 ?_|refine A0y ?_)
  exact⟨I,_,⟨rfl,rfl,_,_,C1M _ _ _ _ _ ⟨_,_,_,_⟩ _ _ _⟩,hm.swap⟩
 ·have he:T.tok s.i=⟨0,[],T.size⟩:=A6A (by omega)
  rw[Sp.St.bad,he];have hpk:=A33 (pb:=pb) (deep:=deep) (da:=da) (dc:=dc) s hr;have hhr:=A2E (pb:=pb) (deep:=deep) (da:=da) (dc:=dc) s hr;rw[he]at hpk hhr;repeat' (first|refine A0S (id:=3) (hm.perm pm1_1) [0,1,2,3,4,5,7,8,9] [6,10,11,12,13] 14 (h:=?_);clear hm;intro wd hR hm|refine A5m (d:=53) ?_ hR hm (hc:=hpk);clear hm;intro _ hm|refine A5m (d:=49) ?_ hR hm (hc:=hhr);clear hm;intro _ hm|refine A0k ?_ hR|refine A7H ?_ hm|refine A3b (d:=56) ?_ hm;clear hm;intro a56 cp56 _ _ hm;replace hm:=hR.back hm;clear hR;try simp only[G5]at hm|refine J6 ?_ hm|refine V3 ?_ hm|refine P5 hm (k:=?_);clear hm;intro _ hm;try simp only[G5]at hm|refine D8 ?_|refine D6 ?_|refine F5 ?_|refine D5 ?_|refine E5 ?_|refine A7 ?_|refine E8 ?_|refine A8 ?_|refine G7 ?_|refine A0p ?_|refine U6 ?_|refine A0s ?_;intro _ hkq;replace hm:=hm.kept0 hkq;clear hkq|(refine C9 (ht:=fun _=>?_) (hf:=fun _=>?_)<;>try first|contradiction|omega)|refine Y4 ?_|refine A18 ?_|refine S9 ?_|refine Q9 ?_|refine L8 ?_|refine A0x ?_|refine U5 ?_|refine N8 ?_|refine A0y ?_)
  exact⟨I,_,⟨rfl,rfl,_,_,C1M _ _ _ _ _ ⟨_,_,_,_⟩ _ _ _⟩,hm.swap⟩
end
end Go.Proofs
