/- Own work: texts NmZ, FwRow2, FwRow3, FwT, FwMap2, FwMap3, FwMapZ, FwMapY, FwU, SpecFlow, SpecRun, one behind the other. -/
import Derived.Test.YtfjdfdgpkncpfaaGreatDoorQb8
import Derived.Laws.OwnMore
import Derived.Maps.RangeRun
set_option maxHeartbeats 64000000
section
namespace Go.Sp
def B61 (F:Itm→Bool) (its:List Itm):Int:=match its.findIdx? F with
 |some j=>(j:Int)
 |none=> -1
def A0Y (its:List Itm) (k:Int) (n:List UInt8):Int:=match Q8 its k n with
 |some j=>(j:Int)
 |none=> -1
theorem B8z {F:Itm→Bool}{its:List Itm}{k:Nat}{it:Itm} (h:its[k]?=some it) (hF:F it=true) (hb:∀j it',j<k→its[j]?=some it'→F it'=false):B61 F its=k:=by
 have:its.findIdx? F=some k:=by
  rw[List.findIdx?_eq_some_iff_getElem]
  obtain⟨hk,e⟩:=List.getElem?_eq_some_iff.1 h
  refine⟨hk,by rw[e];exact hF,fun j hj=>?_⟩
  have:=hb j its[j] hj (List.getElem?_eq_getElem (by omega))
  rw[this];simp
 rw[B61,this]
theorem B5r {F:Itm→Bool}{its:List Itm} (hb:∀j it',j<its.length→its[j]?=some it'→F it'=false):B61 F its= -1:=by
 have:its.findIdx? F=none:=by
  rw[List.findIdx?_eq_none_iff]
  intro x hx
  obtain⟨j,hj,rfl⟩:=List.getElem_of_mem hx
  exact hb j _ hj (List.getElem?_eq_getElem hj)
 rw[B61,this]
end Go.Sp
namespace Go.Fw
open Go
section
variable {P:Program}{N:Nat}{ds:List Deferred}{Q:Exit→Act→World→Prop}{l:Log}{w:World}{ops:Array Oper}{os:List Oper}
variable {d:Nat}{ty:TypeId}{pos:String}{af:Array Edge}{g:Option (Nat×Bool)}{t:TypeId}{x y:Operand}{E:Ent}{I:O5}{H R G:List HItem}
theorem A8o {c:Operand}{f:FuncId} [Own P f] {xs:List Operand}{tys:Array TypeId}{vs ca:List Value}{Post:Value→O5→List HItem→Prop} (k:∀v I' H' w',Post v I' H'→Le I I'→Mem E I' (H'++R) w'→WL P N ds ops Q os ((d,v)::l) w') (hm:Mem E I G w)
  (hw:P7 ops l ⟨some d,.call ⟨.value c,xs.toArray,tys⟩,ty,pos,af,g⟩=some true:=by rfl) (hN:Nat.blt d N=true:=by rfl)
  (hf:ev l c=some (.func (.func f) #[] ca.toArray):=by rfl) (hx:evs l xs=some vs:=by rfl) (hp:G.Perm (H++R)) (hc:CalM P f (vs++ca).toArray I H Post)
   :
  WL P N ds ops Q (⟨some d,.call ⟨.value c,xs.toArray,tys⟩,ty,pos,af,g⟩::os) l w:=
 A4w hw hN hf hx (hc.run w (hm.perm hp).sub) (fun v w' ⟨I',H',h1,h2⟩=>k v I' H' w' h1 h2.le ((hm.perm hp).back h2))
theorem PtrI.sub {b off ty:Nat}{cs cs':List Value} (h:PtrI I b off ty cs) (k:Nat) (hs:∀j u,cs'[j]?=some u→cs[k+j]?=some u):PtrI I b (off+k) ty cs':=by
 obtain⟨c,fr,h1,h2⟩:=h
 exact⟨c,fr,h1,fun j u hj=>by rw[Nat.add_assoc];exact h2 _ _ (hs j u hj)⟩
theorem CalM.read {f:FuncId}{args:Array Value}{v:Value} (h:CalM P f args I [] (fun u _ H'=>u=v∧H'= [])):CalR P f args I [] v:=
 ⟨fun w hI _=>(h.run w (Mem.start hI)).mono (fun _ _ ⟨_,_,⟨h1,_⟩,h2⟩=>⟨h1,h2.kept⟩)⟩
end
end Go.Fw
namespace Go.Proofs.YtfjdfdgpkncpfaaGreatDoor
open Go.Proofs.Tryz
open Go.Fw
structure NI where
 k:Nat
 I:O5
structure FE (I:O5) (its:List Sp.Itm) (a:Option Addr) (cp:Nat) (xs:List Value):Prop where
 row:RowI I 60 10 (.slice a its.length cp) its.length xs
 ats:A3f I its xs
 few:its.length≤64
theorem A6F {I:O5}{its:List Sp.Itm}{a:Option Addr}{cp:Nat}{xs:List Value} (h1:RowI I 60 10 (.slice a its.length cp) its.length xs) (h2:A3f I its xs) (h3:its.length≤30):FE I its a cp xs:=⟨h1,h2,by omega⟩
theorem FE.le {I I':O5}{its:List Sp.Itm}{a:Option Addr}{cp:Nat}{xs:List Value} (h:FE I its a cp xs) (m:Le I I'):FE I' its a cp xs:=⟨h.row.le m,h.ats.le m,h.few⟩
theorem FE.get {I:O5}{its:List Sp.Itm}{a:Option Addr}{cp:Nat}{xs:List Value} (h:FE I its a cp xs) {k:Nat}{it:Sp.Itm} (hg:its[k]?=some it):∃cs,(xs.drop (k *10)).take 10=cs∧A5g I it cs∧cs.length=10:=
 ⟨_,rfl,h.ats.get hg,(h.ats.get hg).len⟩
theorem B8F (I:O5) (k:Int) (n:List UInt8) (bk bn:Nat) (hk:PtrI I bk 0 3 [.int .i64 k]) (hn:PtrI I bn 0 9 [str n]) (it:Sp.Itm) (cs:List Value) (hi:A5g I it cs):
  CalM prog 51 #[.agg cs.toArray,ptr bk,ptr bn] I [] (fun v _ H'=>v=.bool (Sp.A9E k n it)∧H'= []):=by
 obtain⟨ap,cp,as_,cs',ab,cb,ad,cd,xb,rfl,r1,r2,r3,r4,r5⟩:=hi
 refine CalM.of fun w E hm=>enter (N:=19) func51 rfl [(0,.agg (A1m it.kind it.name it.label (.slice ap it.params.length cp) (.slice as_ it.sends.length cs') (.slice ab it.body.length cb) it.at_ it.size it.mark (.slice ad it.diags.length cd)).toArray),(1,ptr bk),(2,ptr bn)] A3h rfl ?_
 repeat' (first|(refine A0t (d:=3) ?_ hm;clear hm;intro b3 _ hm)|refine H6 ?_ hm|refine A1s ?_ hm|refine D7 ?_|refine D5 ?_|refine J8 ?_|refine J3 ?_|refine L8 ?_|refine U0 ?_|refine A0x ?_|refine C9 ?_|refine Y1 ?_|(refine O0 (h1:=fun _=>?_) (h0:=fun _=>?_)<;>(try first|contradiction|(exfalso;omega)))|refine D8 ?_|refine A7 ?_|refine E5 ?_|refine A8 ?_|refine G8 ?_|refine H5 ?_)
 all_goals (refine⟨I,[],⟨congrArg Value.bool ?_,rfl⟩,hm.left (H:= [])⟩;simp_all [Sp.A9E])
theorem B8G (fi:FuncId) [Own prog fi] (ca:List Value) (F:Sp.Itm→Bool) (its:List Sp.Itm) (I:O5) (a:Option Addr) (cp:Nat) (xs:List Value) (h:FE I its a cp xs)
  (hF:∀I',Le I I'→∀it cs,A5g I' it cs→CalM prog fi (.agg cs.toArray::ca).toArray I' [] (fun v _ H'=>v=.bool (F it)∧H'= [])):
  CalM prog 50 #[.slice a its.length cp,.func (.func fi) #[] ca.toArray] I [] (fun v _ H'=>v=.int .i64 (Sp.B61 F its)∧H'= []):=by
 refine CalM.of fun w E hm=>enter (N:=19) func50 rfl [(0,.slice a its.length cp),(1,.func (.func fi) #[] ca.toArray)] A0B rfl ?_
 have hfew:=h.few
 repeat' (first|refine D7 ?_|refine D5 ?_|refine G7 ?_|refine D8 ?_|refine A7 ?_|refine E5 ?_|refine A8 ?_|refine E9 ?_)
 refine U4 (fun x:NI=> [(0,.slice a its.length cp),(1,.func (.func fi) #[] ca.toArray),(7,nt its.length),(8,nt x.k)])
  (fun x w'=>Mem E x.I [] w'∧Le I x.I∧x.k≤its.length∧∀j it',j<x.k→its[j]?=some it'→F it'=false) (fun x=>its.length-x.k) ⟨0,I⟩ (by exact⟨rfl,rfl,rfl,rfl,trivial⟩) ⟨hm,Le.refl _,Nat.zero_le _,fun j _ hj=>absurd hj (Nat.not_lt_zero j)⟩ ?_
 clear hm
 rintro⟨k,I1⟩ w1 ⟨hm,hle1,hk,hno⟩
 dsimp only at hm hle1 hk hno ⊢
 by_cases hlt:k<its.length
 ·have hg:its[k]?=some its[k]:=List.getElem?_eq_getElem hlt
  obtain⟨cs,hcs,hat,hl10⟩:=(h.le hle1).get hg
  have hri:=(h.le hle1).row
  have hc:=hF I1 hle1 _ cs hat
  generalize its[k]=it at hg hat hc
  cases hb:F it with
  |true=>
   rw[hb] at hc
   repeat' (first|(refine L6 (d:=14) ?_ (hr:=hri);intro bt ot hpt;rw[show ((k:Int).toNat *10)=k *10 from rfl,hcs] at hpt)|(refine U7 (d:=15) ?_ hm (hp:=hpt) (hc:=by exact hl10))|(refine A8o (d:=16) ?_ hm (hp:=pm0) (hc:=by exact hc);clear hm;rintro _ I2 _ _ ⟨rfl,rfl⟩ hle hm)|refine D7 ?_|refine D5 ?_|refine J5 ?_|refine D8 ?_|refine A7 ?_|refine G5 ?_|refine O8 ?_|refine E5 ?_|refine A8 ?_|refine E9 ?_|refine F8 ?_|refine G8 ?_|refine H5 ?_|refine F9 ?_|(refine D6 (ht:=fun _=>?_) (hf:=fun _=>?_)<;>(try first|contradiction|(exfalso;omega))))
   all_goals try omega
   exact⟨I2,[],⟨by rw[Sp.B8z hg hb hno],rfl⟩,hm.left (H:= [])⟩
  |false=>
   rw[hb] at hc
   repeat' (first|(refine L6 (d:=14) ?_ (hr:=hri);intro bt ot hpt;rw[show ((k:Int).toNat *10)=k *10 from rfl,hcs] at hpt)|(refine U7 (d:=15) ?_ hm (hp:=hpt) (hc:=by exact hl10))|(refine A8o (d:=16) ?_ hm (hp:=pm0) (hc:=by exact hc);clear hm;rintro _ I2 _ _ ⟨rfl,rfl⟩ hle hm)|refine D7 ?_|refine D5 ?_|refine J5 ?_|refine Q4 ?_|refine D8 ?_|refine A7 ?_|refine D9 ?_|refine E5 ?_|refine A8 ?_|refine E9 ?_|refine F8 ?_|refine F6 ?_|(refine D6 (ht:=fun _=>?_) (hf:=fun _=>?_)<;>(try first|contradiction|(exfalso;omega))))
   all_goals try omega
   refine J9 (⟨k+1,I2⟩:NI) (by exact⟨rfl,rfl,rfl,rfl,trivial⟩) ⟨hm.left (H:= []),hle1.trans hle,by dsimp only;omega,fun j it' hj hg'=>?_⟩ (by dsimp only;omega)
   rcases Nat.lt_or_ge j k with hjk|hjk
   ·exact hno j it' hjk hg'
   ·obtain rfl:j=k:=by dsimp only at hj;omega
    rw[hg] at hg'
    obtain rfl:=Option.some.inj hg'
    exact hb
 ·obtain rfl:k=its.length:=by omega
  repeat' (first|refine D5 ?_|refine J5 ?_|refine D8 ?_|refine A7 ?_|refine G9 ?_|refine G6 ?_|refine E5 ?_|refine A8 ?_|refine O4 ?_|refine G8 ?_|refine H5 ?_|(refine D6 (ht:=fun _=>?_) (hf:=fun _=>?_)<;>(try first|contradiction|(exfalso;omega))))
  all_goals try omega
  exact⟨I1,[],⟨by rw[Sp.B5r hno],rfl⟩,hm.left (H:= [])⟩
theorem A2B (k:Int) (n:List UInt8) (its:List Sp.Itm) (I:O5) (a:Option Addr) (cp:Nat) (xs:List Value) (h:FE I its a cp xs):
  CalM prog 25 #[.agg [.slice a its.length cp].toArray,.int .i64 k,str n] I [] (fun v _ H'=>v=.int .i64 (Sp.A0Y its k n)∧H'= []):=by
 refine CalM.of fun w E hm=>enter (N:=11) func25 rfl [(0,.agg [.slice a its.length cp].toArray),(1,.int .i64 k),(2,str n)] A3h rfl ?_
 repeat' (first|(refine A0t (d:=3) ?_ hm;clear hm;intro b3 _ hm)|(refine A0t (d:=4) ?_ hm;clear hm;intro b4 _ hm)|(refine A0t (d:=5) ?_ hm;clear hm;intro b5 _ hm)|refine H6 ?_ hm|refine D5 ?_|refine A0r ?_|refine C9 ?_|refine D8 ?_|refine A7 ?_|refine E5 ?_|refine A8 ?_)
 obtain⟨I2,hle2,hm2,hpn⟩:=hm.freezeO
 obtain⟨I3,hle3,hm3,hpk⟩:=hm2.freezeO
 clear hm hm2
 have hm:=hm3
 clear hm3
 have hc:=B8G 51 [ptr b4,ptr b5] (Sp.A9E k n) its I3 a cp xs ((h.le hle2).le hle3) (fun I' m it cs hi=>B8F I' k n b4 b5 (hpk.le m) ((hpn.le hle3).le m) it cs hi)
 repeat' (first|(refine F5 (d:=10) ?_ hm (hc:=hc);clear hm;rintro _ I4 _ _ ⟨rfl,rfl⟩ hle hm;have hleI4:=hle;try simp only[F7] at hm)|refine D5 ?_|refine D8 ?_|refine A7 ?_|refine G8 ?_|refine H5 ?_)
 exact⟨I4,[],⟨rfl,rfl⟩,hm.left (H:= [])⟩
end Go.Proofs.YtfjdfdgpkncpfaaGreatDoor
end
section
namespace Go.Fw
open Go
section
variable {P:Program}{N:Nat}{ds:List Deferred}{Q:Exit→Act→World→Prop}{l l':Log}{w w':World}{ops:Array Oper}{os:List Oper}
variable {d:Nat}{ty:TypeId}{pos:String}{af:Array Edge}{g:Option (Nat×Bool)}{t t':TypeId}{x y z:Operand}
variable {E:Ent}{I I':O5}{H H' R:List HItem}
theorem Mem.rowAddr {e:TypeId}{sz n cap:Nat}{a:Option Addr}{xs:List Value} (hm:Mem E I (.row (.slice a n cap) e sz n xs::H) w) (hn:0<n):∃b,a=some ⟨b,0,none⟩:=by
 obtain⟨b,cp,cur,hv,_⟩:=hm.openRow hn
 injection hv with h1 _ _
 exact⟨b,h1⟩
theorem Mem.rowLen {e:TypeId}{sz n:Nat}{v:Value}{xs:List Value} (hm:Mem E I (.row v e sz n xs::H) w):xs.length=n *sz:=(hm.ok _ List.mem_cons_self).1
theorem B3x {by_:Nat} [Elem P t 1 by_] {b off n cap sz:Nat}{e:TypeId}{xs:List Value}{v:Value}{dst:Option Nat} (hm:Mem E I (.row (.slice (some ⟨b,0,none⟩) n cap) e sz n xs::H) w) (hd:dst=none) (hw:P7 ops l ⟨dst,.store t x y,ty,pos,af,g⟩=some true)
  (hx:ev l x=some (.pointer (some ⟨b,off,none⟩))) (hy:ev l y=some v) (hn1:v.cells.toList= [v]) (h1:v.oneCell'=true) (ho:off<xs.length)
  (k:∀w',Mem E I (.row (.slice (some ⟨b,0,none⟩) n cap) e sz n (xs.set off v)::H) w'→WL P N ds ops Q os l w'):
  WL P N ds ops Q (⟨dst,.store t x y,ty,pos,af,g⟩::os) l w:=by
 have h0:=hm.rowLen
 rcases Nat.eq_zero_or_pos n with hn|hn
 ·subst hn;rw[Nat.zero_mul] at h0;omega
 obtain⟨b',cp,cur,hv,hm2,hcp,hcm,hs,ht⟩:=hm.openRow hn
 injection hv with e1 _ e3
 injection e1 with e1
 injection e1 with e1
 subst e1;subst e3
 obtain⟨cL,rfl⟩:∃cL:List Value,cur=cL.toArray:=⟨cur.toList,by simp⟩
 have hs':cL.length=cap *sz:=by simpa using hs
 have ht':cL.take (n *sz)=xs:=by simpa using ht
 have hle:n *sz≤cap *sz:=Nat.mul_le_mul_right _ hcp
 refine J6 (i:=0) hm2 hd hw hx hy rfl hn1 (by rw[Nat.blt_eq];omega) h1 (fun w2 hm3=>k w2 ?_)
 have hm4:Mem E I (.obj b (.cells (cL.set off v).toArray e (0,0))::H) w2:=hm3
 exact hm4.shutRow hcp hcm (by simpa using hs') (by simp only;rw[List.take_set,ht'])
end
section
variable {P:Program}{N:Nat}{ds:List Deferred}{Q:Exit→Act→World→Prop}{K:Act→World→Prop}{KV:Act→Prop}{l l':Log}{w w' w0:World}{ops:Array Oper}{os:List Oper}
variable {d:Nat}{ty:TypeId}{pos:String}{af:Array Edge}{g:Option (Nat×Bool)}{t t':TypeId}{x y z:Operand}
variable {E:Ent}{I I':O5}{H H' R G:List HItem}
class Zero1 (P:Program) (e:TypeId) (v:Value):Prop where out:(P.info? e).bind (·.zero)=some v∧v.cells= #[v]
theorem A7Y {e:TypeId}{by_ n:Nat} (zv:Value) [TySlice P t e] [Elem P e 1 by_] (hz0:Zero1 P e zv) (hm:Mem E I H w) (hw:P7 ops l ⟨some d,.makeSlice t x y,ty,pos,af,g⟩=some true) (hN:Nat.blt d N=true)
  (hx:ev l x=some (.int .i64 n)) (hy:ev l y=some (.int .i64 n)) (hn:n≤1000000) (hby:Nat.ble by_ 1024=true)
  (k:∀b w',Mem E I (.row (.slice (some ⟨b,0,none⟩) n n) e 1 n (List.replicate n zv)::H) w'→WL P N ds ops Q os ((d,.slice (some ⟨b,0,none⟩) n n)::l) w'):
  WL P N ds ops Q (⟨some d,.makeSlice t x y,ty,pos,af,g⟩::os) l w:=by
 obtain⟨i,z,hi',hz,hs',hb',hzc,hpos⟩:=Elem.out (P:=P) (e:=e)
 obtain⟨h1,h2⟩:=hz0.out
 rw[hi',Option.bind_some,hz] at h1
 obtain rfl:=Option.some.inj h1
 have hby':=Nat.le_of_ble_eq_true hby
 have hbn:by_ *n≤1024 *1000000:=Nat.mul_le_mul hby' hn
 have hr:=run_makeSlice (P:=P) (w:=w) t e i z (TySlice.out (P:=P) (t:=t)) hi' hz .i64 .i64 n n (by omega) (by omega) (by rw[hs',Int.toNat_natCast];omega)
  (by rw[hb'];have:((by_ *n:Nat):Int)≤281474976710656:=(by omega);simpa using this) (by omega)
 rw[hs',h2,Int.toNat_natCast,Nat.mul_one] at hr
 have hmc:madeCells #[z] n=(List.replicate n z).toArray:=by
  apply Array.toList_inj.1
  rw[toList_madeCells_one]
 rw[hmc] at hr
 refine O9 (w':=w.alloc (.cells (List.replicate n z).toArray e (0,0))) (v:=.slice (some ⟨w.heap.size,0,none⟩) n n) rfl hw hN (fun a ha=>?_)
  (k w.heap.size _ (hm.add (Kept.alloc w _) ⟨by simp,.inr ⟨w.heap.size,n,_,rfl,Nat.zero_le _,heap_alloc_new w _,Nat.le_refl _,by unfold maxLen;omega,by simp,by simp⟩⟩ (fun b' hb'=>?_)))
 ·simp only[execOp,ha.ev hx,ha.ev hy]
  simp[hr]
 ·simp only[HItem.blk,Value.ownBlock,Option.some.injEq] at hb';omega
theorem Mem.rowCell {e:TypeId}{sz n cp b off:Nat}{xs:List Value}{v:Value} (ho:(HItem.row (.slice (some ⟨b,0,none⟩) n cp) e sz n xs).ok w) (hc:xs[off]?=some v):
  ∃c fr,w.heap[b]?=some (.cells c e fr)∧c[off]?=some v:=by
 rcases ho.2 with ⟨_,h0⟩|⟨g,cap,cur,hv,_,hg,_,_,_,ht⟩
 ·have h1:=ho.1
  subst h0
  rw[Nat.zero_mul] at h1
  have:off<xs.length:=(List.getElem?_eq_some_iff.1 hc).1
  omega
 ·injection hv with e1 _ _
  injection e1 with e1
  injection e1 with e1
  subst e1
  refine⟨cur,(0,0),hg,?_⟩
  rw[←ht,List.getElem?_take] at hc
  split at hc
  ·simpa using hc
  ·cases hc
theorem A1j [TyOne P t] {i b off n cp sz:Nat}{e:TypeId}{xs:List Value}{v:Value} (hm:Mem E I H w) (hw:P7 ops l ⟨some d,.load t x,ty,pos,af,g⟩=some true) (hN:Nat.blt d N=true)
  (hx:ev l x=some (.pointer (some ⟨b,off,none⟩))) (hb:H[i]?=some (.row (.slice (some ⟨b,0,none⟩) n cp) e sz n xs)) (hc:xs[off]?=some v)
  (k:WL P N ds ops Q os ((d,v)::l) w):WL P N ds ops Q (⟨some d,.load t x,ty,pos,af,g⟩::os) l w:=by
 obtain⟨c,fr,h1,h2⟩:=Mem.rowCell (hm.ok _ (List.mem_of_getElem? hb)) hc
 exact A21 hw hN hx h1 h2 k
theorem A20 {by_:Nat} [Elem P t 1 by_] {i b off n cap sz:Nat}{e:TypeId}{xs:List Value}{v:Value}{dst:Option Nat} (hm:Mem E I H w) (hd:dst=none) (hw:P7 ops l ⟨dst,.store t x y,ty,pos,af,g⟩=some true)
  (hx:ev l x=some (.pointer (some ⟨b,off,none⟩))) (hy:ev l y=some v) (hi:H[i]?=some (.row (.slice (some ⟨b,0,none⟩) n cap) e sz n xs)) (hn1:v.cells.toList= [v]) (h1:v.oneCell'=true) (ho:off<xs.length)
  (k:∀w',Mem E I (H.set i (.row (.slice (some ⟨b,0,none⟩) n cap) e sz n (xs.set off v))) w'→WL P N ds ops Q os l w'):
  WL P N ds ops Q (⟨dst,.store t x y,ty,pos,af,g⟩::os) l w:=by
 refine B3x (hm.front i hi) hd hw hx hy hn1 h1 ho (fun w2 hm2=>k w2 (hm2.perm ?_))
 have hlt:i<H.length:=(List.getElem?_eq_some_iff.1 hi).1
 have h:=A4O (H.set i (.row (.slice (some ⟨b,0,none⟩) n cap) e sz n (xs.set off v))) i _ (List.getElem?_set_self hlt)
 rw[List.eraseIdx_set_eq] at h
 exact h.symm
end
abbrev Tri (α:Type):=List α×Option Addr×Nat
abbrev Tri.nil {α:Type}:Tri α:=([],none,0)
abbrev A01 {α:Type} (t:Tri α):Value:=.slice t.2.1 t.1.length t.2.2
abbrev sl0:Value:=.slice none 0 0
theorem B2f {α β:Type}{g:α→β}{T:List α}{i:Nat}{u:α}:(T.map g).set i (g u)=(T.set i u).map g:=by rw[List.map_set]
theorem B2Q {α β:Type}{g:α→β}{T:List α}{i:Nat}{t:α} (h:T[i]?=some t):(T.map g).Perm (g t::(T.eraseIdx i).map g):=by
 have h2:=(Go.Fw.A4O T i t h).map g
 exact h2
theorem B9g {α β:Type}{g:α→β}{T:List α}{i:Nat}{u:α} (h:i<T.length):((T.set i u).map g).Perm (g u::(T.eraseIdx i).map g):=by
 have h2:=B2Q (g:=g) (T:=T.set i u) (i:=i) (t:=u) (List.getElem?_set_self h)
 rw[List.eraseIdx_set_eq] at h2
 exact h2
abbrev A5e (L:List Value) (n:Nat):List Value:=L++List.replicate n sl0
theorem B7C {L:List Value}{n m:Nat}{v:Value} (hl:L.length=m):(A5e L (n+1)).set m v=A5e (L++ [v]) n:=by
 subst hl
 rw[A5e,List.set_append,if_neg (Nat.lt_irrefl _),Nat.sub_self,List.replicate_succ,List.set_cons_zero,A5e,List.append_assoc];rfl
theorem B0b {L:List Value}{n:Nat}:A5e L (n+1)=A5e (L++ [sl0]) n:=by
 rw[A5e,A5e,List.replicate_succ,List.append_assoc];rfl
section
variable {P:Program}{N:Nat}{ds:List Deferred}{Q:Exit→Act→World→Prop}{X:List Nat}{l l':Log}{w w' w0:World}{ops:Array Oper}{os tail:List Oper}{o:Oper}
variable {d:Nat}{ty:TypeId}{pos:String}{af:Array Edge}{g:Option (Nat×Bool)}{t t':TypeId}{x y:Operand}{ik:IntKind}
theorem B2G {e:TypeId} [TySlice P t e] {b:Option Addr}{n c:Nat} (hC:Kept X w0 w) (hw:P7 ops l ⟨some d,.call ⟨.builtin .len, #[x], #[t]⟩,ty,pos,af,g⟩=some true) (hN:Nat.blt d N=true)
  (hx:ev l x=some (.slice b n c)) (k:WS P N ds ops Q X w0 os tail ((d,.int .i64 (n:Int))::l) w):
  WS P N ds ops Q X w0 (⟨some d,.call ⟨.builtin .len, #[x], #[t]⟩,ty,pos,af,g⟩::os) tail l w:=
 A28 rfl hw hN (fun a ha=>by
  have h1:=run_underlying (P:=P) (w:=w) (TySlice.out (P:=P) (t:=t))
  simp[execOp,resolve,invoke,builtin,Builtin.len_,ha.ev hx,h1,goInt]) hC k
theorem B2F {e:TypeId}{sz by_:Nat} [TySlice P t e] [Elem P e sz by_] {b o' n cp:Nat}{i:Int} (hC:Kept X w0 w) (hw:P7 ops l ⟨some d,.indexAddr t x y,ty,pos,af,g⟩=some true) (hN:Nat.blt d N=true)
  (hx:ev l x=some (.slice (some ⟨b,o',none⟩) n cp)) (hy:ev l y=some (.int .i64 i)) (h0:0≤i) (h1:i<n)
  (k:WS P N ds ops Q X w0 os tail ((d,.pointer (some ⟨b,o'+i.toNat *sz,none⟩))::l) w):
  WS P N ds ops Q X w0 (⟨some d,.indexAddr t x y,ty,pos,af,g⟩::os) tail l w:=
 A28 rfl hw hN (fun a ha=>by
  obtain⟨inf,z,hi,_,hs,_,_,_⟩:=Elem.out (P:=P) (e:=e)
  have h6:=run_underlying (P:=P) (w:=w) (TySlice.out (P:=P) (t:=t))
  simp[execOp,Instr.indexAt,asIntOf,ha.ev hx,ha.ev hy,h6,h0,h1,sizeOf,typeInfo,hi,hs,Addr.add_lit]) hC k
theorem B0F {e:TypeId}{sz by_:Nat} [TySlice P t e] [Elem P e sz by_] {I:O5}{a:Option Addr}{m cp:Nat}{i:Int}{xs:List Value} (hC:Kept X w0 w) (hw:P7 ops l ⟨some d,.indexAddr t x y,ty,pos,af,g⟩=some true) (hN:Nat.blt d N=true)
  (hx:ev l x=some (.slice a m cp)) (hy:ev l y=some (.int .i64 i)) (hr:RowI I e sz (.slice a m cp) m xs) (h0:0≤i) (h1:i<m)
  (k:∀b off,PtrI I b off e ((xs.drop (i.toNat *sz)).take sz)→WS P N ds ops Q X w0 os tail ((d,.pointer (some ⟨b,off,none⟩))::l) w):
  WS P N ds ops Q X w0 (⟨some d,.indexAddr t x y,ty,pos,af,g⟩::os) tail l w:=by
 obtain⟨b,off,rfl,hp⟩:=hr.at_ i.toNat (by omega)
 exact B2F hC hw hN hx hy h0 h1 (k b _ hp)
end
def B7i (es:A2H) (s:List UInt8) (v:Value):A2H:=match es.findIdx? (fun p=>decide (p.1=s)) with
 |some i=>es.set i (s,v)
 |none=>es++ [(s,v)]
theorem B3z {es:A2H}{s:List UInt8}{v:Value} (h:(es.map (·.1)).Nodup):((B7i es s v).map (·.1)).Nodup:=by
 rw[B7i]
 cases hf:es.findIdx? (fun p=>decide (p.1=s)) with
 |some i=>
  obtain⟨hi,hs,_⟩:=List.findIdx?_eq_some_iff_getElem.1 hf
  have hs':es[i].1=s:=by simpa using hs
  have:(es.set i (s,v)).map (·.1)=es.map (·.1):=by
   apply List.ext_getElem?
   intro j
   simp only[List.getElem?_map,List.getElem?_set]
   split
   ·rename_i h
    subst h
    rw[List.getElem?_eq_getElem hi]
    simp[hs']
   ·rfl
  dsimp only
  rw[this]
  exact h
 |none=>
  dsimp only
  rw[List.map_append,List.nodup_append]
  refine⟨h,by simp,fun a h1 b h2=>?_⟩
  simp only[List.map_cons,List.map_nil,List.mem_singleton] at h2
  subst h2
  rintro rfl
  obtain⟨p,hp,hps⟩:=List.mem_map.1 h1
  have:=List.findIdx?_eq_none_iff.1 hf p hp
  simp[hps] at this
section
variable {P:Program}{N:Nat}{ds:List Deferred}{Q:Exit→Act→World→Prop}{l:Log}{w:World}{ops:Array Oper}{os:List Oper}
variable {d:Nat}{ty:TypeId}{pos:String}{af:Array Edge}{g:Option (Nat×Bool)}{t t':TypeId}{x y z:Operand}{E:Ent}{I:O5}{H:List HItem}
end
def A3l (es:A2H) (s:List UInt8):Option Value:=(es.find? (fun p=>decide (p.1=s))).map (·.2)
theorem B0J:∀ {es:A2H}{j:Nat}{u:List UInt8}{v:Value},(es.map (·.1)).Nodup→es[j]?=some (u,v)→A3l es u=some v
 | [],j,u,v,_,h=>by simp at h
 |(a,c)::es,0,u,v,_,h=>by
  simp only[List.getElem?_cons_zero,Option.some.injEq,Prod.mk.injEq] at h
  obtain⟨rfl,rfl⟩:=h
  simp[A3l]
 |(a,c)::es,j+1,u,v,hn,h=>by
  rw[List.getElem?_cons_succ] at h
  rw[List.map_cons,List.nodup_cons] at hn
  have hne:a≠u:=by
   rintro rfl
   exact hn.1 (List.mem_map_of_mem (f:=(·.1)) (List.mem_of_getElem? h))
  have ih:=B0J hn.2 h
  simp only[A3l] at ih ⊢
  rw[List.find?_cons,decide_eq_false hne]
  exact ih
theorem A98:∀ {es:A2H}{u:List UInt8}{v:Value},A3l es u=some v→∃j:Nat,es[j]?=some (u,v)
 | [],u,v,h=>by cases h
 |(a,c)::es,u,v,h=>by
  simp only[A3l] at h
  rw[List.find?_cons] at h
  by_cases e:a=u
  ·rw[decide_eq_true e] at h
   simp only[Option.map_some,Option.some.injEq] at h
   subst e;subst h
   exact⟨0,rfl⟩
  ·rw[decide_eq_false e] at h
   obtain⟨j,hj⟩:=A98 (es:=es) h
   exact⟨j+1,by rw[List.getElem?_cons_succ];exact hj⟩
theorem B5D {es:A2H}{u:List UInt8} (h:A3l es u=none) {j:Nat}{p:List UInt8×Value} (hj:es[j]?=some p):p.1≠u:=by
 rintro rfl
 simp only[A3l,Option.map_eq_none_iff,List.find?_eq_none] at h
 have:=h p (List.mem_of_getElem? hj)
 simp at this
theorem B2i {es:A2H}{s:List UInt8}{v:Value} (n:List UInt8) (h:A3l es s=none):A3l (es++ [(s,v)]) n=if n=s then some v else A3l es n:=by
 simp only[A3l] at h ⊢
 rw[List.find?_append]
 by_cases e:n=s
 ·subst e
  rw[if_pos rfl,Option.map_eq_none_iff.1 h]
  simp
 ·rw[if_neg e]
  cases hf:es.find? (fun p=>decide (p.1=n)) with
  |some p=>rfl
  |none=>simp[Ne.symm e]
theorem B2j:∀ {es:A2H}{i:Nat}{s:List UInt8}{v:Value} (n:List UInt8),(es.map (·.1)).Nodup→(∃c,es[i]?=some (s,c))→A3l (es.set i (s,v)) n=if n=s then some v else A3l es n
 | [],i,s,v,n,_,h=>by obtain⟨_,h⟩:=h;simp at h
 |(a,c)::es,0,s,v,n,_,h=>by
  obtain⟨_,h⟩:=h
  simp only[List.getElem?_cons_zero,Option.some.injEq,Prod.mk.injEq] at h
  obtain⟨rfl,_⟩:=h
  simp only[A3l,List.set_cons_zero,List.find?_cons]
  by_cases e:n=a
  ·subst e;simp
  ·rw[if_neg e,decide_eq_false (Ne.symm e)]
 |(a,c)::es,i+1,s,v,n,hn,h=>by
  obtain⟨c',h⟩:=h
  rw[List.getElem?_cons_succ] at h
  rw[List.map_cons,List.nodup_cons] at hn
  have ih:=B2j (v:=v) n hn.2 ⟨c',h⟩
  have has:a≠s:=by
   rintro rfl
   exact hn.1 (List.mem_map_of_mem (f:=(·.1)) (List.mem_of_getElem? h))
  simp only[A3l,List.set_cons_succ,List.find?_cons] at ih ⊢
  by_cases e:a=n
  ·subst e
   rw[decide_eq_true rfl,if_neg has]
  ·rw[decide_eq_false e]
   exact ih
theorem B5C {es:A2H}{s:List UInt8}{v:Value} (n:List UInt8) (hn:(es.map (·.1)).Nodup):A3l (B7i es s v) n=if n=s then some v else A3l es n:=by
 rw[B7i]
 cases hf:es.findIdx? (fun p=>decide (p.1=s)) with
 |some i=>
  obtain⟨hi,hs,_⟩:=List.findIdx?_eq_some_iff_getElem.1 hf
  have hs':es[i].1=s:=by simpa using hs
  exact B2j n hn ⟨es[i].2,by rw[List.getElem?_eq_getElem hi, ←hs']⟩
 |none=>
  refine B2i n ?_
  rw[List.findIdx?_eq_none_iff] at hf
  simp only[A3l,Option.map_eq_none_iff,List.find?_eq_none]
  intro p hp
  simpa using hf p hp
structure MapI (I:O5) (b:Nat) (es:A2H):Prop where
 out:I b=some (.map (A7h es 0).toArray es.length)
 nodup:(es.map (·.1)).Nodup
theorem MapI.le {I I':O5}{b:Nat}{es:A2H} (h:MapI I b es) (hl:Le I I'):MapI I' b es:=⟨hl _ _ h.out,h.nodup⟩
abbrev HItem.it (r b n:Nat) (S:List Nat):HItem:=.obj r (.mapIter (some b) n S.toArray n)
section
variable {P:Program}{N:Nat}{ds:List Deferred}{Q:Exit→Act→World→Prop}{K:Act→World→Prop}{l:Log}{w:World}{ops:Array Oper}{os:List Oper}
variable {d:Nat}{ty:TypeId}{pos:String}{af:Array Edge}{g:Option (Nat×Bool)}{t:TypeId}{x y:Operand}{E:Ent}{I:O5}{H:List HItem}
end
structure Copied (es:A2H) (S:List Nat) (es2:A2H):Prop where
 nodup:(es2.map (·.1)).Nodup
 get:∀n v,A3l es2 n=some v↔ ∃j∈S,es[j]?=some (n,v)
theorem Copied.start (es:A2H):Copied es [] []:=⟨by simp,fun n v=>by simp[A3l]⟩
theorem Copied.put {es es2:A2H}{S:List Nat}{j:Nat}{u:List UInt8}{v:Value} (h:Copied es S es2) (hn:(es.map (·.1)).Nodup) (hj:es[j]?=some (u,v)):Copied es (S++ [j]) (B7i es2 u v):=by
 refine⟨B3z h.nodup,fun n v'=>?_⟩
 rw[B5C n h.nodup]
 by_cases e:n=u
 ·subst e
  rw[if_pos rfl]
  constructor
  ·rintro h';cases h';exact⟨j,by simp,hj⟩
  ·rintro⟨i,_,hi⟩
   rw[←B0J hn hj,B0J hn hi]
 ·rw[if_neg e,h.get]
  constructor
  ·rintro⟨i,hi,h2⟩;exact⟨i,by simp[hi],h2⟩
  ·rintro⟨i,hi,h2⟩
   rcases List.mem_append.1 hi with hi|hi
   ·exact⟨i,hi,h2⟩
   ·rw[List.mem_singleton] at hi
    subst hi
    rw[hj] at h2
    cases h2
    exact absurd rfl e
theorem Copied.done {es es2:A2H}{S:List Nat} (h:Copied es S es2) (_hn:(es.map (·.1)).Nodup) (hS:∀j,j<es.length→j∈S) (n:List UInt8):A3l es2 n=A3l es n:=by
 cases hg:A3l es n with
 |some v=>
  obtain⟨j,hj⟩:=A98 hg
  exact(h.get n v).2 ⟨j,hS j (List.getElem?_eq_some_iff.1 hj).1,hj⟩
 |none=>
  cases hg2:A3l es2 n with
  |none=>rfl
  |some v=>
   obtain⟨j,_,hj⟩:=(h.get n v).1 hg2
   exact absurd rfl (B5D hg hj)
abbrev C1r (k:Int):Value:=.int .i64 k
abbrev B4e:=List (Int×Value)
def B9r (es:B4e) (n:Nat):List MapEntry:=(es.zipIdx n).map (fun p=> { key:=C1r p.1.1,val:=p.1.2,born:=p.2})
structure MapAtZ (w:World) (b:Nat) (es:B4e):Prop where
 out:w.heap[b]?=some (.map (B9r es 0).toArray es.length)
 nodup:(es.map (·.1)).Nodup
section
variable {P:Program}{N:Nat}{ds:List Deferred}{Q:Exit→Act→World→Prop}{l l':Log}{w w':World}{ops:Array Oper}{os:List Oper}{o:Oper}
variable {d:Nat}{ty:TypeId}{pos:String}{af:Array Edge}{g:Option (Nat×Bool)}{t t':TypeId}{x y z:Operand}{E:Ent}{I:O5}{H:List HItem}
end
section
variable {P:Program}{N:Nat}{ds:List Deferred}{Q:Exit→Act→World→Prop}{K:Act→World→Prop}{KV:Act→Prop}{l:Log}{w w0:World}{ops:Array Oper}{os os' tail:List Oper}{X:List Nat}
variable {d:Nat}{ty:TypeId}{pos:String}{af:Array Edge}{g:Option (Nat×Bool)}{t:TypeId}{x y z:Operand}{E:Ent}{I I0:O5}{H G R:List HItem}{n f:Nat}{listed:Array Bool}
end
def B6a (I:O5) (b:Nat) (es:B4e):Prop:=I b=some (.map (B9r es 0).toArray es.length)
theorem B6a.le {I I':O5}{b:Nat}{es:B4e} (h:B6a I b es) (hl:Le I I'):B6a I' b es:=hl _ _ h
section
variable {P:Program}{N:Nat}{ds:List Deferred}{Q:Exit→Act→World→Prop}{K:Act→World→Prop}{KV:Act→Prop}{l:Log}{w w0:World}{ops:Array Oper}{os tail:List Oper}{X:List Nat}
variable {d:Nat}{ty:TypeId}{pos:String}{af:Array Edge}{g:Option (Nat×Bool)}{t:TypeId}{x y:Operand}{E:Ent}{I I0:O5}{H G R:List HItem}{n f:Nat}{listed:Array Bool}
theorem B1j {i off:Nat} [Fld P t i off] {b o':Nat} (hC:Kept X w0 w) (hw:P7 ops l ⟨some d,.fieldAddr t x i,ty,pos,af,g⟩=some true) (hN:Nat.blt d N=true)
  (hx:ev l x=some (.pointer (some ⟨b,o',none⟩))) (k:WA P N ds ops Q X w0 n f listed tail ((d,.pointer (some ⟨b,o'+off,none⟩))::l) w):
  WU P N ds ops Q X w0 n f listed tail ⟨some d,.fieldAddr t x i,ty,pos,af,g⟩ l w:=
 A67 rfl hw hN (fun a ha=>by
  obtain⟨fs,f,inf,h1,h2,h3,h4,h5⟩:=Fld.out (P:=P) (t:=t) (i:=i)
  have h6:=run_underlying (P:=P) (w:=w) h1
  simp[execOp,Instr.fieldAt,Instr.sureAddr,ha.ev hx,h6,h2,fieldPlace,sizeOf,typeInfo,h4,h5,h3,Addr.add_lit]) hC k
theorem B5W [TyOne P t] {a:Act} (ha:Fits N ds l a) {b off:Nat}{c:Array Value}{e:TypeId}{fr:Nat×Nat}{v:Value} (hx:ev l x=some (.pointer (some ⟨b,off,none⟩))) (hb:w.heap[b]?=some (.cells c e fr)) (hc:c[off]?=some v):
  (execOp a.eval ⟨some d,.load t x,ty,pos,af,g⟩).run P w=.ok (.value v) w:=by
 obtain⟨dd,h1,h2⟩:=TyOne.out (P:=P) (t:=t)
 have h4:=A1A hb hc
 simp[execOp,Instr.loadAt,Instr.sureAddr,loadVar,A11 h1,h2,ha.ev hx,load,Sem.run,h4]
theorem B7l [TyOne P t] {i b off:Nat}{c:List Value}{e:TypeId}{fr:Nat×Nat}{v:Value} (hm:Mem ⟨w0,X,I0⟩ I H w) (hw:P7 ops l ⟨some d,.load t x,ty,pos,af,g⟩=some true) (hN:Nat.blt d N=true)
  (hx:ev l x=some (.pointer (some ⟨b,off,none⟩))) (hb:H[i]?=some (.obj b (.cells c.toArray e fr))) (hc:c[off]?=some v)
  (k:WA P N ds ops Q X w0 n f listed tail ((d,v)::l) w):WU P N ds ops Q X w0 n f listed tail ⟨some d,.load t x,ty,pos,af,g⟩ l w:=
 A67 rfl hw hN (fun a ha=>B5W ha hx (hm.get hb) (by simpa using hc)) hm.kept k
theorem B5F {i b off by_:Nat} [Elem P t 1 by_] {c:List Value}{e:TypeId}{v:Value}{dst:Option Nat} (hm:Mem ⟨w0,X,I0⟩ I H w) (hd:dst=none) (hw:P7 ops l ⟨dst,.store t x y,ty,pos,af,g⟩=some true)
  (hx:ev l x=some (.pointer (some ⟨b,off,none⟩))) (hy:ev l y=some v) (hb:H[i]?=some (.obj b (.cells c.toArray e (0,0)))) (hn:v.cells.toList= [v]) (ho:Nat.blt off c.length=true) (h1:v.oneCell'=true)
  (k:∀w',Mem ⟨w0,X,I0⟩ I (H.set i (.obj b (.cells (c.set off v).toArray e (0,0)))) w'→WA P N ds ops Q X w0 n f listed tail l w'):
  WU P N ds ops Q X w0 n f listed tail ⟨dst,.store t x y,ty,pos,af,g⟩ l w:=by
 subst hd
 have hget:=hm.get hb
 have hlt:off<c.length:=by simpa[Nat.blt_eq] using ho
 have h2:=A4Z (P:=P) (t:=t) (off:=off) (n:=1) v hget (by rw[←Array.length_toList,hn];rfl) (by simp;omega) (by rw[hn];simp[h1])
 generalize hc':(c.toArray.toList.take off++v.cells.toList++c.toArray.toList.drop (off+1)).toArray=c' at h2
 have e0:c'=(c.set off v).toArray:=by
  rw[←hc',hn, ←B4U ho,List.append_assoc]
 rw[e0] at h2
 have hk:Kept [b] w (w.setRow b (c.set off v).toArray):=Kept.setRow hget _
 have hm':=hm.turn (h':=.obj b (.cells (c.set off v).toArray e (0,0))) hb (by simpa[HItem.blk] using hk) (by
  show (w.setRow b (c.set off v).toArray).heap[b]?=_
  rw[setRow_heap w b c.toArray _ e (0,0) hget]) (.inl rfl)
 refine B47 rfl hw (fun a ha=>?_) hm'.kept (k _ hm')
 simp only[execOp,Instr.storeAt,Instr.sureAddr,ha.ev hx,ha.ev hy,Sem.run_bind,Sem.run_pure,Result.andThen,h2]
end
end Go.Fw
end
section
namespace Go.Sp
def A3E (sc:List Lc) (n:List UInt8):Nat:=match A0g sc n with
 |some l=>l.at_
 |none=>0
def A1e (its:List Itm) (n:Nat) (x:Rf):Nat:=match Q8 its 1 x.name with
 |some j=>n &&& (N9 its j).label
 |none=>n
def A2z (its:List Itm) (l:List Rf):Nat:=l.foldl (A1e its) 255
def A2y (its:List Itm):List Nat:=its.map (fun it=>A2z its it.sends)
structure FW where
 ds:List Dg
 hv:Option Nat
def FW.tell (s:FW) (f t:Nat) (n:List UInt8):FW:= { s with ds:=s.ds++ [⟨f,t,9,n⟩]}
def FW.hit (s:FW) (at_:Int) (f t n:Nat):FW:=if s.hv=none∧(f:Int)≤at_∧at_<t then { s with hv:=some n} else s
def FW.ask (s:FW) (a b f t:Nat) (n:List UInt8):FW:=if S9 a b=true then s else s.tell f t n
def callLab (its:List Itm) (n:List UInt8):Nat:=match Q8 its 2 n with
 |some j=>(N9 its j).label
 |none=>0
def askFloor (its:List Itm) (un:Nat) (n:List UInt8) (f t:Nat) (s:FW):FW:=match Q8 its 2 n with
 |some j=>s.ask un (A2z its (N9 its j).sends) f t n
 |none=>s
def askArg (its:List Itm) (n:List UInt8) (i a f t:Nat) (s:FW):FW:=match Q8 its 2 n with
 |some j=>match (N9 its j).params[i]? with
  |some p=>s.ask a p.label f t p.name
  |none=>s
 |none=>s
mutual
def exF (its:List Itm) (at_:Int) (sc:List Lc) (un:Nat):Ex→FW→Nat×FW
 | .mk k nm _ args f t,s=>
  if k=2 then (A3E sc nm,s.hit at_ f t (A3E sc nm|||un)) else
  if k=3 then ((opsF its at_ sc un args 0 s).1,(opsF its at_ sc un args 0 s).2.hit at_ f t ((opsF its at_ sc un args 0 s).1|||un)) else
  if k=4 then (callLab its nm,(askFloor its un nm f t (argsF its at_ sc un nm args 0 s)).hit at_ f t (callLab its nm|||un)) else
  (0,s.hit at_ f t (0|||un))
def opsF (its:List Itm) (at_:Int) (sc:List Lc) (un:Nat):List Ex→Nat→FW→Nat×FW
 | [],n,s=>(n,s)
 |e::es,n,s=>opsF its at_ sc un es (n|||(exF its at_ sc un e s).1) (exF its at_ sc un e s).2
def argsF (its:List Itm) (at_:Int) (sc:List Lc) (un:Nat) (nm:List UInt8):List Ex→Nat→FW→FW
 | [],_,s=>s
 |e::es,i,s=>argsF its at_ sc un nm es (i+1) (askArg its nm i ((exF its at_ sc un e s).1|||un) e.fr e.to (exF its at_ sc un e s).2)
 end
mutual
def plainF (its:List Itm) (sc:List Lc):Ex→Nat
 | .mk k nm _ args _ _=>if k=2 then A3E sc nm else if k=3 then plainsF its sc args 0 else if k=4 then callLab its nm else 0
def plainsF (its:List Itm) (sc:List Lc):List Ex→Nat→Nat
 | [],n=>n
 |e::es,n=>plainsF its sc es (n|||plainF its sc e)
 end
def unF (its:List Itm) (sc:List Lc) (k un:Nat) (e:Ex):Nat:=if k=4 then plainF its sc e|||un else un
def askCh (its:List Itm) (a:Nat) (n:List UInt8) (f t:Nat) (s:FW):FW:=match Q8 its 1 n with
 |some j=>s.ask a (N9 its j).label f t n
 |none=>s
mutual
def stmF (its:List Itm) (own:Nat) (at_:Int):Stm→List Lc→Nat→FW→List Lc×FW
 | .mk k nm _ lb o e thn els f t,sc,un,s=>
  let un1:=unF its sc k un e
  let r:=exF its at_ sc un1 e s
  let a:=r.1|||un1
  if k=1 then (sc++ [⟨nm,if o=true then a else lb⟩],r.2.ask a (if o=true then a else lb) f t nm) else
  if k=2 then (sc,r.2.ask a (A3E sc nm) f t nm) else
  if k=5 then (sc,askCh its a nm f t r.2) else
  if k=6 then (sc,r.2.ask a own f t nm) else
  if k=3∨k=4 then (sc,(stmsF its own at_ els sc a (stmsF its own at_ thn sc a r.2).2).2) else (sc,r.2)
def stmsF (its:List Itm) (own:Nat) (at_:Int):List Stm→List Lc→Nat→FW→List Lc×FW
 | [],sc,_,s=>(sc,s)
 |x::xs,sc,un,s=>stmsF its own at_ xs (stmF its own at_ x sc un s).1 un (stmF its own at_ x sc un s).2
 end
def FW0:FW:=⟨[],none⟩
def A2s (l:List Par):List Lc:=l.map (fun p=>⟨p.name,p.label⟩)
def A19 (its:List Itm) (i:Nat) (at_:Int):FW:=
 if (N9 its i).kind=2 then (stmsF its (N9 its i).label at_ (N9 its i).body (A2s (N9 its i).params) 0 FW0).2 else FW0
theorem B2t (its:List Itm) (at_:Int) (sc:List Lc) (un:Nat):∀(l r:List Ex) (n:Nat) (s:FW),opsF its at_ sc un (l++r) n s=opsF its at_ sc un r (opsF its at_ sc un l n s).1 (opsF its at_ sc un l n s).2
 | [],r,n,s=>by rw[List.nil_append,opsF]
 |e::l,r,n,s=>by rw[List.cons_append,opsF,opsF,B2t its at_ sc un l r]
theorem B5J (its:List Itm) (at_:Int) (sc:List Lc) (un:Nat) {l:List Ex}{k:Nat}{e:Ex} (h:l[k]?=some e) (n:Nat) (s:FW):
  opsF its at_ sc un (l.take (k+1)) n s=((opsF its at_ sc un (l.take k) n s).1|||(exF its at_ sc un e (opsF its at_ sc un (l.take k) n s).2).1,(exF its at_ sc un e (opsF its at_ sc un (l.take k) n s).2).2):=by
 rw[P9 h,B2t,opsF,opsF]
theorem A9P (its:List Itm) (at_:Int) (sc:List Lc) (un:Nat) (nm:List UInt8):∀(l r:List Ex) (i:Nat) (s:FW),argsF its at_ sc un nm (l++r) i s=argsF its at_ sc un nm r (i+l.length) (argsF its at_ sc un nm l i s)
 | [],r,i,s=>by rw[List.nil_append,argsF];rfl
 |e::l,r,i,s=>by rw[List.cons_append,argsF,argsF,A9P its at_ sc un nm l r,List.length_cons,show i+1+l.length=i+(l.length+1) by omega]
theorem B23 (its:List Itm) (at_:Int) (sc:List Lc) (un:Nat) (nm:List UInt8) {l:List Ex}{k:Nat}{e:Ex} (h:l[k]?=some e) (s:FW):
  argsF its at_ sc un nm (l.take (k+1)) 0 s=askArg its nm k ((exF its at_ sc un e (argsF its at_ sc un nm (l.take k) 0 s)).1|||un) e.fr e.to (exF its at_ sc un e (argsF its at_ sc un nm (l.take k) 0 s)).2:=by
 have hk:=(List.getElem?_eq_some_iff.1 h).1
 rw[P9 h,A9P,argsF,argsF,List.length_take,Nat.min_eq_left (by omega),Nat.zero_add]
theorem A71 (its:List Itm) (sc:List Lc):∀(l r:List Ex) (n:Nat),plainsF its sc (l++r) n=plainsF its sc r (plainsF its sc l n)
 | [],r,n=>by rw[List.nil_append,plainsF]
 |e::l,r,n=>by rw[List.cons_append,plainsF,plainsF,A71 its sc l r]
theorem B00 (its:List Itm) (sc:List Lc) {l:List Ex}{k:Nat}{e:Ex} (h:l[k]?=some e) (n:Nat):plainsF its sc (l.take (k+1)) n=plainsF its sc (l.take k) n|||plainF its sc e:=by
 rw[P9 h,A71,plainsF,plainsF]
theorem B0k (its:List Itm) (own:Nat) (at_:Int):∀(l r:List Stm) (sc:List Lc) (un:Nat) (s:FW),stmsF its own at_ (l++r) sc un s=stmsF its own at_ r (stmsF its own at_ l sc un s).1 un (stmsF its own at_ l sc un s).2
 | [],r,sc,un,s=>by rw[List.nil_append,stmsF]
 |e::l,r,sc,un,s=>by rw[List.cons_append,stmsF,stmsF,B0k its own at_ l r]
theorem B3W (its:List Itm) (own:Nat) (at_:Int) {l:List Stm}{k:Nat}{x:Stm} (h:l[k]?=some x) (sc:List Lc) (un:Nat) (s:FW):
  stmsF its own at_ (l.take (k+1)) sc un s=stmF its own at_ x (stmsF its own at_ (l.take k) sc un s).1 un (stmsF its own at_ (l.take k) sc un s).2:=by
 rw[P9 h,B0k,stmsF,stmsF]
theorem A3F (s:FW) (at_:Int) (f t n:Nat):(s.hit at_ f t n).ds=s.ds:=by rw[FW.hit];split<;>rfl
theorem A6x (s:FW) (a b f t:Nat) (n:List UInt8):s.ds.length≤(s.ask a b f t n).ds.length∧(s.ask a b f t n).ds.length≤s.ds.length+1:=by
 rw[FW.ask]
 split
 ·omega
 ·simp[FW.tell]
theorem A8J (its:List Itm) (un:Nat) (n:List UInt8) (f t:Nat) (s:FW):s.ds.length≤(askFloor its un n f t s).ds.length∧(askFloor its un n f t s).ds.length≤s.ds.length+1:=by
 rw[askFloor]
 split
 ·exact A6x _ _ _ _ _ _
 ·omega
theorem B4j (its:List Itm) (a:Nat) (n:List UInt8) (f t:Nat) (s:FW):s.ds.length≤(askCh its a n f t s).ds.length∧(askCh its a n f t s).ds.length≤s.ds.length+1:=by
 rw[askCh]
 split
 ·exact A6x _ _ _ _ _ _
 ·omega
theorem B1B (its:List Itm) (n:List UInt8) (i a f t:Nat) (s:FW):s.ds.length≤(askArg its n i a f t s).ds.length∧(askArg its n i a f t s).ds.length≤s.ds.length+1:=by
 rw[askArg]
 split
 ·split
  ·exact A6x _ _ _ _ _ _
  ·omega
 ·omega
mutual
theorem A8Q (its:List Itm) (at_:Int) (sc:List Lc) (un:Nat):∀(e:Ex) (s:FW),s.ds.length≤(exF its at_ sc un e s).2.ds.length∧(exF its at_ sc un e s).2.ds.length+1≤s.ds.length+2 *e.cnt
 | .mk k nm n args f t,s=>by
  rw[exF,Ex.cnt]
  have h1:=B0R its at_ sc un args 0 s
  have h2:=A6w its at_ sc un nm args 0 s
  have h3:=A8J its un nm f t (argsF its at_ sc un nm args 0 s)
  split
  ·dsimp only;rw[A3F];omega
  ·split
   ·dsimp only;rw[A3F];omega
   ·split
    ·dsimp only;rw[A3F];omega
    ·dsimp only;rw[A3F];omega
theorem B0R (its:List Itm) (at_:Int) (sc:List Lc) (un:Nat):∀(l:List Ex) (n:Nat) (s:FW),s.ds.length≤(opsF its at_ sc un l n s).2.ds.length∧(opsF its at_ sc un l n s).2.ds.length≤s.ds.length+2 *A0b l
 | [],n,s=>by rw[opsF,A0b];exact⟨by dsimp only;omega,by dsimp only;omega⟩
 |e::l,n,s=>by
  rw[opsF,A0b]
  have h1:=A8Q its at_ sc un e s
  have h2:=B0R its at_ sc un l (n|||(exF its at_ sc un e s).1) (exF its at_ sc un e s).2
  omega
theorem A6w (its:List Itm) (at_:Int) (sc:List Lc) (un:Nat) (nm:List UInt8):∀(l:List Ex) (i:Nat) (s:FW),s.ds.length≤(argsF its at_ sc un nm l i s).ds.length∧(argsF its at_ sc un nm l i s).ds.length≤s.ds.length+2 *A0b l
 | [],i,s=>by rw[argsF,A0b];omega
 |e::l,i,s=>by
  rw[argsF,A0b]
  have h1:=A8Q its at_ sc un e s
  have h3:=B1B its nm i ((exF its at_ sc un e s).1|||un) e.fr e.to (exF its at_ sc un e s).2
  have h2:=A6w its at_ sc un nm l (i+1) (askArg its nm i ((exF its at_ sc un e s).1|||un) e.fr e.to (exF its at_ sc un e s).2)
  omega
 end
mutual
theorem C0q (its:List Itm) (own:Nat) (at_:Int):∀(x:Stm) (sc:List Lc) (un:Nat) (s:FW),s.ds.length≤(stmF its own at_ x sc un s).2.ds.length∧(stmF its own at_ x sc un s).2.ds.length≤s.ds.length+2 *x.cnt∧
   sc.length≤(stmF its own at_ x sc un s).1.length∧(stmF its own at_ x sc un s).1.length≤sc.length+1
 | .mk k nm a lb o e thn els f t,sc,un,s=>by
  rw[stmF,Stm.cnt]
  try dsimp only
  generalize unF its sc k un e=un1
  have h1:=A8Q its at_ sc un1 e s
  generalize exF its at_ sc un1 e s=r at h1 ⊢
  have h2:=A6x r.2 (r.1|||un1) (if o=true then r.1|||un1 else lb) f t nm
  have h3:=A6x r.2 (r.1|||un1) (A3E sc nm) f t nm
  have h4:=A6x r.2 (r.1|||un1) own f t nm
  have h5:=B4j its (r.1|||un1) nm f t r.2
  have h6:=A2R its own at_ thn sc (r.1|||un1) r.2
  have h7:=A2R its own at_ els sc (r.1|||un1) (stmsF its own at_ thn sc (r.1|||un1) r.2).2
  split
  ·dsimp only;rw[List.length_append,List.length_singleton];omega
  ·split
   ·dsimp only;omega
   ·split
    ·dsimp only;omega
    ·split
     ·dsimp only;omega
     ·split
      ·dsimp only;omega
      ·dsimp only;omega
theorem A2R (its:List Itm) (own:Nat) (at_:Int):∀(l:List Stm) (sc:List Lc) (un:Nat) (s:FW),s.ds.length≤(stmsF its own at_ l sc un s).2.ds.length∧(stmsF its own at_ l sc un s).2.ds.length≤s.ds.length+2 *N7 l∧
   sc.length≤(stmsF its own at_ l sc un s).1.length∧(stmsF its own at_ l sc un s).1.length≤sc.length+l.length
 | [],sc,un,s=>by rw[stmsF,N7];exact⟨by dsimp only;omega,by dsimp only;omega,by dsimp only;omega,by dsimp only;simp⟩
 |x::l,sc,un,s=>by
  rw[stmsF,N7,List.length_cons]
  have h1:=C0q its own at_ x sc un s
  have h2:=A2R its own at_ l (stmF its own at_ x sc un s).1 un (stmF its own at_ x sc un s).2
  omega
 end
theorem B7W (its:List Itm) (own:Nat) (at_:Int) (x:Stm) (sc:List Lc) (un:Nat) (s:FW):sc<+:(stmF its own at_ x sc un s).1:=by
 cases x with
 |mk k nm a lb o e thn els f t=>
 rw[stmF]
 try dsimp only
 split
 ·exact List.prefix_append _ _
 ·split
  ·exact List.prefix_refl _
  ·split
   ·exact List.prefix_refl _
   ·split
    ·exact List.prefix_refl _
    ·split<;>exact List.prefix_refl _
theorem B0m (its:List Itm) (own:Nat) (at_:Int):∀(l:List Stm) (sc:List Lc) (un:Nat) (s:FW),sc<+:(stmsF its own at_ l sc un s).1
 | [],sc,un,s=>by rw[stmsF];exact List.prefix_refl _
 |x::l,sc,un,s=>by rw[stmsF];exact(B7W its own at_ x sc un s).trans (B0m its own at_ l _ _ _)
theorem B3V (its:List Itm) (own:Nat) (at_:Int) (l:List Stm) (sc:List Lc) (un:Nat) (s:FW):(stmsF its own at_ l sc un s).1.take sc.length=sc:=
 (List.prefix_iff_eq_take.1 (B0m its own at_ l sc un s)).symm
def A2D (sc:List Lc):Prop:= ∀l∈sc,l.at_<256
def A3G (its:List Itm):Prop:= ∀it∈its,it.label<256∧∀p∈it.params,p.label<256
theorem B0B {sc:List Lc} (h:A2D sc) (n:List UInt8):A3E sc n<256:=by
 rw[A3E]
 split
 ·rename_i l hl
  exact h l (A4M hl).1
 ·omega
theorem Y8 {its:List Itm}{k:Int}{n:List UInt8}{j:Nat} (h:Q8 its k n=some j):j<its.length∧((N9 its j).kind:Int)=k∧(N9 its j).name=n∧n≠ []∧N9 its j∈its:=by
 obtain⟨h1,h2,_⟩:=List.findIdx?_eq_some_iff_getElem.1 h
 have e:N9 its j=its[j]:=by rw[N9,List.getD_eq_getElem?_getD,List.getElem?_eq_getElem h1];rfl
 rw[e]
 simp only[A9E,Bool.and_eq_true,decide_eq_true_eq] at h2
 exact⟨h1,h2.1,h2.2.1,h2.2.2,List.getElem_mem h1⟩
theorem A8K {its:List Itm} (h:A3G its) (n:List UInt8):callLab its n<256:=by
 rw[callLab]
 split
 ·rename_i j hj
  exact(h _ (Y8 hj).2.2.2.2).1
 ·omega
mutual
theorem A7i {its:List Itm} (h:A3G its) (at_:Int) {sc:List Lc} (hs:A2D sc) (un:Nat):∀(e:Ex) (s:FW),(exF its at_ sc un e s).1<256
 | .mk k nm n args f t,s=>by
  rw[exF]
  split
  ·exact B0B hs _
  ·split
   ·exact B0Q h at_ hs un args 0 s (by omega)
   ·split
    ·exact A8K h _
    ·dsimp only;omega
theorem B0Q {its:List Itm} (h:A3G its) (at_:Int) {sc:List Lc} (hs:A2D sc) (un:Nat):∀(l:List Ex) (n:Nat) (s:FW),n<256→(opsF its at_ sc un l n s).1<256
 | [],n,s,hn=>by rw[opsF];exact hn
 |e::l,n,s,hn=>by rw[opsF];exact B0Q h at_ hs un l _ _ (B0a hn (A7i h at_ hs un e s))
 end
mutual
theorem A5P {its:List Itm} (h:A3G its) {sc:List Lc} (hs:A2D sc):∀(e:Ex),plainF its sc e<256
 | .mk k nm n args f t=>by
  rw[plainF]
  split
  ·exact B0B hs _
  ·split
   ·exact A6m h hs args 0 (by omega)
   ·split
    ·exact A8K h _
    ·omega
theorem A6m {its:List Itm} (h:A3G its) {sc:List Lc} (hs:A2D sc):∀(l:List Ex) (n:Nat),n<256→plainsF its sc l n<256
 | [],n,hn=>by rw[plainsF];exact hn
 |e::l,n,hn=>by rw[plainsF];exact A6m h hs l _ (B0a hn (A5P h hs e))
 end
theorem B2g (its:List Itm) (l:List Rf):A2z its l<256:=by
 have key:∀(l:List Rf) (n:Nat),n<256→l.foldl (A1e its) n<256:=by
  intro l
  induction l with
  |nil=>intro n h;exact h
  |cons x l ih=>
   intro n h
   rw[List.foldl_cons]
   refine ih _ ?_
   rw[A1e]
   split
   ·exact B6g h
   ·exact h
 exact key l 255 (by omega)
theorem B70 {its:List Itm} (h:A3G its) {sc:List Lc} (hs:A2D sc) (k:Nat) {un:Nat} (hu:un<256) (e:Ex):unF its sc k un e<256:=by
 rw[unF]
 split
 ·exact B0a (A5P h hs e) hu
 ·exact hu
theorem B3Q {sc:List Lc} (h:A2D sc) {n:List UInt8}{a:Nat} (ha:a<256):A2D (sc++ [⟨n,a⟩]):=fun l hl=>by
 rcases List.mem_append.1 hl with hl|hl
 ·exact h l hl
 ·obtain rfl:=List.mem_singleton.1 hl
  exact ha
theorem B7V {its:List Itm} (h:A3G its) (own:Nat) (at_:Int) (x:Stm) {sc:List Lc} (hs:A2D sc) {un:Nat} (hu:un<256) (hx:x.label<256) (s:FW):A2D (stmF its own at_ x sc un s).1:=by
 cases x with
 |mk k nm a lb o e thn els f t=>
 rw[stmF]
 try dsimp only
 have h1:=B70 h hs k hu e
 generalize unF its sc k un e=un1 at h1 ⊢
 have h2:=A7i h at_ hs un1 e s
 split
 ·refine B3Q hs ?_
  split
  ·exact B0a h2 h1
  ·exact hx
 ·split
  ·exact hs
  ·split
   ·exact hs
   ·split
    ·exact hs
    ·split<;>exact hs
theorem B5M {its:List Itm} (h:A3G its) {it:Itm} (hi:it∈its):A2D (A2s it.params):=fun l hl=>by
 obtain⟨p,hp,rfl⟩:=List.mem_map.1 hl
 exact(h it hi).2 p hp
def w64 (n:Int):Int:=(n+9223372036854775808) % 18446744073709551616-9223372036854775808
structure Cl where
 name:List UInt8
 n:Int
structure Ev where
 ch:List UInt8
 n:Int
 deriving DecidableEq
structure MR where
 ev:List Ev
 steps:Nat
 err:Nat
def MR.go (m:MR):Bool:=decide (m.err=0) && decide (m.steps<3000)
def MR.step (m:MR):MR:=if m.err≠0 then m else if m.steps<3000 then { m with steps:=m.steps+1} else { m with err:=11}
def A1S:List Cl→List UInt8→Option Nat
 | [],_=>none
 |c::sc,n=>match A1S sc n with
  |some i=>some (i+1)
  |none=>if c.name=n then some 0 else none
def B15 (sc:List Cl) (n:List UInt8):Int:=match A1S sc n with
 |some i=>(sc.getD i ⟨[],0⟩).n
 |none=>0
def A7J (sc:List Cl) (n:List UInt8) (v:Int):List Cl:=match A1S sc n with
 |some i=>sc.set i ⟨(sc.getD i ⟨[],0⟩).name,v⟩
 |none=>sc
def opR (nm:List UInt8) (a b:Int):Int:=
 if nm= [43] then w64 (a+b) else if nm= [45] then w64 (a-b) else if nm= [42] then w64 (a *b) else
 if nm= [60] then (if a<b then 1 else 0) else if a=b then 1 else 0
abbrev A0X:=List UInt8→List Int→MR→Int×MR
mutual
def exR (C:A0X) (sc:List Cl):Ex→MR→Int×MR
 | .mk k nm n args _ _,m=>
  if m.go=false then (0,m.step) else
  if k=1 then ((n:Int),m.step) else
  if k=2 then (B15 sc nm,m.step) else
  if k=3 then (opR nm ((A0e C sc args m.step).1.getD 0 0) ((A0e C sc args m.step).1.getD 1 0),(A0e C sc args m.step).2) else
  C nm (A0e C sc args m.step).1 (A0e C sc args m.step).2
def A0e (C:A0X) (sc:List Cl):List Ex→MR→List Int×MR
 | [],m=>([],m)
 |e::es,m=>((exR C sc e m).1::(A0e C sc es (exR C sc e m).2).1,(A0e C sc es (exR C sc e m).2).2)
 end
structure SR where
 sc:List Cl
 back:Int
 m:MR
def A0F (f:List Cl→MR→Int×MR) (b:SR→SR):Nat→SR→SR
 |0,s=>s
 |k+1,s=>
  if s.m.go=false then { s with m:=s.m.step} else
  if (f s.sc s.m.step).1≠0∧(f s.sc s.m.step).2.err=0 then A0F f b k (b { s with m:=(f s.sc s.m.step).2}) else { s with m:=(f s.sc s.m.step).2}
def A04 (n:Nat) (r:SR×Bool):SR:=if r.2=true then { r.1 with sc:=r.1.sc.take n} else r.1
mutual
def A3S (C:A0X):Stm→SR→SR
 | .mk k nm _ _ _ e thn els _ _,s=>
  if k=4 then A0F (fun sc m=>exR C sc e m) (fun s=>A04 s.sc.length (goR C thn s)) 3001 s else
  if s.m.go=false then { s with m:=s.m.step} else
  if (exR C s.sc e s.m.step).2.err≠0 then { s with m:=(exR C s.sc e s.m.step).2} else
  if k=1 then { s with sc:=s.sc++ [⟨nm,(exR C s.sc e s.m.step).1⟩],m:=(exR C s.sc e s.m.step).2} else
  if k=2 then { s with sc:=A7J s.sc nm (exR C s.sc e s.m.step).1,m:=(exR C s.sc e s.m.step).2} else
  if k=5 then { s with m:= { (exR C s.sc e s.m.step).2 with ev:=(exR C s.sc e s.m.step).2.ev++ [⟨nm,(exR C s.sc e s.m.step).1⟩]}} else
  if k=6 then { s with back:=(exR C s.sc e s.m.step).1,m:=(exR C s.sc e s.m.step).2} else
  if k=3 then
   if (exR C s.sc e s.m.step).1≠0 then A04 s.sc.length (goR C thn { s with m:=(exR C s.sc e s.m.step).2})
   else A04 s.sc.length (goR C els { s with m:=(exR C s.sc e s.m.step).2})
  else { s with m:=(exR C s.sc e s.m.step).2}
def goR (C:A0X):List Stm→SR→SR×Bool
 | [],s=>(s,true)
 |x::xs,s=>if s.m.err≠0 then (s,false) else goR C xs (A3S C x s)
 end
def A30 (C:A0X) (l:List Stm) (s:SR):SR:=A04 s.sc.length (goR C l s)
def A2t (l:List Par) (args:List Int):List Cl:=List.zipWith (fun p n=>⟨p.name,n⟩) l args
def A0v (its:List Itm):Nat→A0X
 |0,_,_,m=>(0,if m.err≠0 then m else { m with err:=12})
 |d+1,nm,args,m=>
  if m.err≠0 then (0,m) else
  match Q8 its 2 nm with
  |none=>(0,m)
  |some j=>((A30 (A0v its d) (N9 its j).body ⟨A2t (N9 its j).params args,0,m⟩).back,(A30 (A0v its d) (N9 its j).body ⟨A2t (N9 its j).params args,0,m⟩).m)
structure Rn where
 ev:List Ev
 n:Int
 err:Nat
 steps:Nat
def MR0:MR:=⟨[],0,0⟩
end Go.Sp
end
