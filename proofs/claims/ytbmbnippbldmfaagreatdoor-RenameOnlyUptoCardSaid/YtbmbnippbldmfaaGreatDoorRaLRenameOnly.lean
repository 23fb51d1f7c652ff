/- Own work: the law RenameOnly. -/
import Derived.Test.YtbmbnippbldmfaaGreatDoorRa23
set_option maxHeartbeats 64000000
namespace Go.Fw
open Go.Sp
open Go
section
variable {P:Program}{N:Nat}{ds:List Deferred}
variable {Q:Exit->Act->World->Prop}{l l':Log}{w w':World}{ops:Array Oper}{os:List Oper}
theorem B4N (id:Nat) {x y:Code}{α:Type} (L:α->Log) (J:α->World->Prop)
  (h:WC P N ds (.block id x) (Exit.then (fun a w=> ∃x,Fits N ds (L x) a/\J x w) Q) l w)
  (k:∀x w,J x w->WC P N ds y Q (L x) w):WC P N ds (.seq (.block id x) y) Q l w:=D3g L J h k
end
section
variable {P:Program}{N:Nat}{ds:List Deferred}{Q:Exit->Act->World->Prop}{l l':Log}{w w':World}{ops:Array Oper}{os:List Oper}{o:Oper}
variable {d:Nat}{ty:TypeId}{pos:String}{af:Array Edge}{g:Option (Nat×Bool)}{t t':TypeId}{x y:Operand}{ik:IntKind}
theorem D1K {a b:Int} (k:WL P N ds ops Q os ((d,.int .i64 (a *b))::l) w) (hw:X9 ops l ⟨some d,.binOp .mul t x y t',ty,pos,af,g⟩=some true:=by rfl) (hN:Nat.blt d N=true:=by rfl)
  (hx:ev l x=some (.int .i64 a):=by rfl) (hy:ev l y=some (.int .i64 b):=by rfl) (h: -9223372036854775808<=a *b/\a *b<=9223372036854775807:=by omega)
   :WL P N ds ops Q (⟨some d,.binOp .mul t x y t',ty,pos,af,g⟩::os) l w:=
 X6 rfl hw hN (fun c hc=>by simp[execOp,hc.ev hx,hc.ev hy,eqGuard,binOp,Op.intArith,IntWalk.i64_in _ h]) k
end
section
variable {P:Program}{N:Nat}{ds:List Deferred}{K:Act->World->Prop}{l l':Log}{w w':World}{ops:Array Oper}{os:List Oper}{o:Oper}
variable {d:Nat}{ty:TypeId}{pos:String}{af:Array Edge}{g:Option (Nat×Bool)}{t t':TypeId}{x y:Operand}{ik:IntKind}
theorem C9n {s u:List UInt8} (k:WQ P N ds ops w K os ((d,str (s++u))::l)) (hw:X9 ops l ⟨some d,.binOp .add t x y t',ty,pos,af,g⟩=some true:=by rfl) (hN:Nat.blt d N=true:=by rfl)
  (hx:ev l x=some (str s):=by rfl) (hy:ev l y=some (str u):=by rfl) (h:s.length+u.length<=9223372036854775807)  :
  WQ P N ds ops w K (⟨some d,.binOp .add t x y t',ty,pos,af,g⟩::os) l:=
 A1T rfl hw hN (fun w' hkq c hc=>by
  have h1:¬((s.length+u.length:Nat):Int)>IntKind.i64.max:=by simp[IntKind.max,IntKind.bits,IntKind.signed];omega
  simp only[execOp,hc.ev hx,hc.ev hy,eqGuard,binOp,Op.stringOp,A4h,B1j,if_neg h1];simp) k
theorem B4s {c:Operand}{f:FuncId} [Own P f] {xs:List Operand}{tys:Array TypeId}{vs ca:List Value}{v:Value}
  (hw:X9 ops l ⟨some d,.call ⟨.value c,xs.toArray,tys⟩,ty,pos,af,g⟩=some true) (hN:Nat.blt d N=true)
  (hf:ev l c=some (.func (.func f) #[] ca.toArray)) (hx:evs l xs=some vs) (hc:∀w',Kept [] w w'->Cal P f (vs++ca).toArray w' (fun u w''=>u=v/\Kept [] w' w'')) (k:WQ P N ds ops w K os ((d,v)::l)):
  WQ P N ds ops w K (⟨some d,.call ⟨.value c,xs.toArray,tys⟩,ty,pos,af,g⟩::os) l:=
 C4k rfl hw hN (fun w' a ha=>by
  have:=ha.evs hx;simp[execOp,resolve,invoke,ha.ev hf,Deferred.ofValue,this,A3L]) hc k
end
theorem CalM.reader {P:Program}{f:FuncId}{args:Array Value}{I:P8}{v:Value} (h:CalM P f args I [] (fun u I' H'=>u=v/\I'=I/\H'= [])):CalR P f args I [] v:=
 ⟨fun w hI _=>(h.run w (Mem.start hI)).mono (fun _ _ ⟨_,_,⟨h1,_,_⟩,h2⟩=>⟨h1,h2.kept⟩)⟩
section
variable {P:Program}{N:Nat}{ds:List Deferred}{Q:Exit->Act->World->Prop}{K:Act->World->Prop}{KV:Act->Prop}{X:List Nat}{l l':Log}{w w':World}{ops:Array Oper}{os:List Oper}{o:Oper}
variable {d:Nat}{ty:TypeId}{pos:String}{af:Array Edge}{g:Option (Nat×Bool)}{t t':TypeId}{x y:Operand}
variable {E:Ent}{I I':P8}{H H' G:List HItem}
end
end Go.Fw
namespace Go.Sp
def B6M (its:List Itm) (x:Int):Prop:= ∃d∈A3g its,d.at_=x
def NW.md (its:List Itm) (w:NW):Prop:= ∀u∈w.us,B6M its u.df
def rp (H:Nat->Bool) (nm:List UInt8):Nat->List UInt8->Nat->List UInt8
 |0,_,_=> []
 |f+1,s,p=>if s= [] then [] else (if H p=true then nm else s.take (one s).2)++rp H nm f (s.drop (one s).2) (p+(one s).2)
theorem B8o (s:List UInt8) (k:Nat) (h:k<s.length):(s.drop k).take 1= [s.getD k 0]:=by
 rw[A3Q h,A09,Z9,N9,F9 h]
 rfl
def A2s (c:UInt8):Nat:=if A0I c then 0 else if c.toNat=35 then 9 else if A0n c then 1 else if A0C c then 2 else if A6h c then 3 else 4
def A68 (l:List Tok) (c:UInt8):List Tok:=match l.getLast? with
 |none=> []
 |some t=>l.dropLast++ [⟨t.kind,t.text++ [c],t.pos⟩]
def B9W (c:UInt8) (i:Nat) (x:Nat×List Tok):Nat×List Tok:=
 if x.1=9/\c.toNat≠10 then x else
 if (x.1=1/\A01 c=true)\/(x.1=2/\A0C c=true) then (x.1,A68 x.2 c) else
 if A2s c=0\/A2s c=9 then (A2s c,x.2) else
 if A2s c=1\/A2s c=2 then (A2s c,x.2++ [⟨A2s c,[c],i⟩]) else (0,x.2++ [⟨A2s c,[c],i⟩])
def A6v (s:List UInt8):Nat->Nat×List Tok
 |0=>(0,[])
 |k+1=>B9W (s.getD k 0) k (A6v s k)
def B2M (s:List UInt8):List Tok:=(A6v s s.length).2
theorem B2u (s:List UInt8) (k:Nat) (h:k<s.length):s.drop k=s.getD k 0::s.drop (k+1):=by
 rw[A3Q h,N9,F9 h];rfl
theorem C0A {F:UInt8->Bool}{s:List UInt8}{k:Nat} (h:k<s.length) (hf:F (s.getD k 0)=true):ext F s k=s.getD k 0::ext F s (k+1):=by
 rw[ext,B2u s k h,A1F,if_pos hf];rfl
theorem C4R {F:UInt8->Bool}{s:List UInt8}{k:Nat} (h:k<s.length) (hf:F (s.getD k 0)=false):ext F s k= []:=by
 rw[ext,B2u s k h,A1F,if_neg (by rw[hf];simp)]
theorem C0z {F:UInt8->Bool}{s:List UInt8}{k:Nat} (h:s.length<=k):ext F s k= []:=by
 rw[ext,List.drop_eq_nil_of_le h];rfl
theorem D2M (F:UInt8->Bool) (s:List UInt8) (k:Nat):(s.drop k).take (ext F s k).length=ext F s k:=by
 exact(List.prefix_iff_eq_take.1 (List.takeWhile_prefix F)).symm
theorem B7R (s:List UInt8) (k:Nat) (h:k<s.length):one (s.drop k)=
  if A0I (s.getD k 0) then (0,1+(ext A0I s (k+1)).length) else
  if (s.getD k 0).toNat=35 then (0,1+(ext A6M s (k+1)).length) else
  if A0n (s.getD k 0) then (1,1+(ext A01 s (k+1)).length) else
  if A0C (s.getD k 0) then (2,1+(ext A0C s (k+1)).length) else
  if A6h (s.getD k 0) then (3,1) else (4,1):=by
 rw[B2u s k h];rfl
theorem B8P (s:List UInt8) (k:Nat):A3F s k=A3F s (k+(ext A0I s k).length):=by
 by_cases h:k<s.length
 ·cases hb:A0I (s.getD k 0) with
  |false=>rw[C4R h hb];rfl
  |true=>
   rw[A46 s k h,B7R s k h,if_pos hb,C0A h hb];simp[A2T]
 ·rw[C0z (by omega)];rfl
theorem C1r (s:List UInt8) (k:Nat) (h:k<s.length) (hb:A0I (s.getD k 0)=true):A3F s k=A3F s (k+1):=by
 rw[A46 s k h,B7R s k h,if_pos hb,B8P s (k+1)];simp[A3a]
def B1R (s:List UInt8) (st:Nat) (out:List Tok) (k:Nat):List Tok:=
 if st=9 then out++A3F s (k+(ext A6M s k).length) else
 if st=1\/st=2 then match out.getLast? with
  |none=> []
  |some t=>out.dropLast++ [⟨t.kind,t.text++ext (if st=1 then A01 else A0C) s k,t.pos⟩]++A3F s (k+(ext (if st=1 then A01 else A0C) s k).length)
 else out++A3F s k
theorem D7S (s:List UInt8) (out:List Tok) (k:Nat):B1R s 9 out k=out++A3F s (k+(ext A6M s k).length):=by simp[B1R]
theorem D0j (s:List UInt8) (out:List Tok) (k:Nat):B1R s 0 out k=out++A3F s k:=by simp[B1R]
theorem D7Q (s:List UInt8) (l:List Tok) (t:Tok) (k:Nat):B1R s 1 (l++ [t]) k=l++ [⟨t.kind,t.text++ext A01 s k,t.pos⟩]++A3F s (k+(ext A01 s k).length):=by simp[B1R]
theorem D7R (s:List UInt8) (l:List Tok) (t:Tok) (k:Nat):B1R s 2 (l++ [t]) k=l++ [⟨t.kind,t.text++ext A0C s k,t.pos⟩]++A3F s (k+(ext A0C s k).length):=by simp[B1R]
theorem C4H (s:List UInt8) (out:List Tok) (k:Nat) (h:k<s.length):
  out++A3F s k=(fun x:Nat×List Tok=>B1R s x.1 x.2 (k+1)) (if A2s (s.getD k 0)=0\/A2s (s.getD k 0)=9 then (A2s (s.getD k 0),out) else
   if A2s (s.getD k 0)=1\/A2s (s.getD k 0)=2 then (A2s (s.getD k 0),out++ [⟨A2s (s.getD k 0),[s.getD k 0],k⟩]) else (0,out++ [⟨A2s (s.getD k 0),[s.getD k 0],k⟩])):=by
 have h1:=B7R s k h;have hst:=A46 s k h;have ht:∀F,(s.drop k).take (1+(ext F s (k+1)).length)=s.getD k 0::ext F s (k+1):=fun F=>by
  rw[B2u s k h,A2T,A09,D2M]
 have ht1:(s.drop k).take 1= [s.getD k 0]:=B8o s k h;unfold A2s
 cases hb:A0I (s.getD k 0) with
 |true=>
  simp only[if_true,true_or];rw[D0j,C1r s k h hb]
 |false=>
  rw[hb]at h1;simp only[A3A,if_false]at h1 |-;by_cases h35:(s.getD k 0).toNat=35
  ·rw[if_pos h35]at h1 |-
   rw[h1]at hst;simp only[or_true,if_true];rw[D7S,hst];simp[A3a]
  ·rw[if_neg h35]at h1 |-
   cases hl:A0n (s.getD k 0) with
   |true=>
    rw[if_pos hl]at h1;rw[h1]at hst;simp only[if_true];rw[if_neg (by decide),if_pos (by decide),D7Q,hst];simp[ht,A3a]
   |false=>
    rw[if_neg (by rw[hl];simp)]at h1;simp only[A3A,if_false];cases hd:A0C (s.getD k 0) with
    |true=>
     rw[if_pos hd]at h1;rw[h1]at hst;simp only[if_true];rw[if_neg (by decide),if_pos (by decide),D7R,hst];simp[ht,A3a]
    |false=>
     rw[if_neg (by rw[hd];simp)]at h1;simp only[A3A,if_false];cases hs:A6h (s.getD k 0) with
     |true=>
      rw[if_pos hs]at h1;rw[h1]at hst;simp only[if_true];rw[if_neg (by decide),if_neg (by decide),D0j,hst];simp[ht1]
     |false=>
      rw[if_neg (by rw[hs];simp)]at h1;rw[h1]at hst;simp only[A3A,if_false];rw[if_neg (by decide),if_neg (by decide),D0j,hst];simp[ht1]
theorem B8d (s:List UInt8):∀k,k<=s.length->B1R s (A6v s k).1 (A6v s k).2 k=Q5 s/\((A6v s k).1=1\/(A6v s k).1=2->(A6v s k).2≠ [])
 |0,_=>⟨by rw[A6v,B1R,if_neg (by decide),if_neg (by decide),A8F];rfl,by simp[A6v]⟩
 |k+1,hk=>by
  have h:k<s.length:=by omega
  obtain⟨ih,ihne⟩:=B8d s k (by omega);rw[A6v];generalize A6v s k=x at ih ihne;obtain⟨st,out⟩:=x;dsimp only at ih ihne;rw[<-ih];have hfr:=C4H s out k h;have hne:∀(st':Nat) (o':List Tok),(if A2s (s.getD k 0)=0\/A2s (s.getD k 0)=9 then (A2s (s.getD k 0),out) else
   if A2s (s.getD k 0)=1\/A2s (s.getD k 0)=2 then (A2s (s.getD k 0),out++ [⟨A2s (s.getD k 0),[s.getD k 0],k⟩]) else (0,out++ [⟨A2s (s.getD k 0),[s.getD k 0],k⟩]))=(st',o')->st'=1\/st'=2->o'≠ []:=by
   intro st' o' he h12;split at he
   ·rename_i h0
    injection he with e1 e2
    omega
   ·split at he<;>(injection he with e1 e2;rw[<-e2];simp)
  unfold B9W
  dsimp only
  by_cases h9:st=9/\(s.getD k 0).toNat≠10
  ·rw[if_pos h9]
   obtain⟨rfl,hc⟩:=h9;refine⟨?_,fun h=>by simp at h⟩
   have hf:A6M (s.getD k 0)=true:=by simpa[A6M] using hc
   simp only[B1R,if_true];rw[C0A h hf];simp only[E9];rw[show k+1+(ext A6M s (k+1)).length=k+((ext A6M s (k+1)).length+1) by omega]
  ·rw[if_neg h9]
   by_cases hc:(st=1/\A01 (s.getD k 0)=true)\/(st=2/\A0C (s.getD k 0)=true)
   ·rw[if_pos hc]
    have h12:st=1\/st=2:=by omega
    have hn9:st≠9:=by omega
    have hne:=ihne h12;obtain⟨l0,t,rfl⟩:∃l0 t,out=l0++ [t]:=⟨out.dropLast,out.getLast hne,(List.dropLast_concat_getLast hne).symm⟩;have hf:(if st=1 then A01 else A0C) (s.getD k 0)=true:=by
     rcases hc with ⟨h1,h2⟩|⟨h1,h2⟩
     ·rw[if_pos h1];exact h2
     ·rw[if_neg (by omega)];exact h2
    have e:A68 (l0++ [t]) (s.getD k 0)=l0++ [⟨t.kind,t.text++ [s.getD k 0],t.pos⟩]:=by simp[A68]
    dsimp only
    refine⟨?_,fun _=>by rw[e];simp⟩
    rw[e];simp only[B1R,if_neg hn9,if_pos h12];rw[C0A h hf];simp
    rw[show k+1+(ext (if st=1 then A01 else A0C) s (k+1)).length=k+((ext (if st=1 then A01 else A0C) s (k+1)).length+1) by omega]
   ·rw[if_neg hc]
    refine⟨?_,fun h12=>hne _ _ rfl h12⟩
    refine Eq.trans hfr.symm ?_
    by_cases hs9:st=9
    ·subst hs9
     have h10:(s.getD k 0).toNat=10:=by omega
     simp only[B1R,if_true];rw[C4R h (by simpa[A6M] using h10)]
     rfl
    ·by_cases h12:st=1\/st=2
     ·have hne:=ihne h12
      obtain⟨l0,t,rfl⟩:∃l0 t,out=l0++ [t]:=⟨out.dropLast,out.getLast hne,(List.dropLast_concat_getLast hne).symm⟩;have hf:(if st=1 then A01 else A0C) (s.getD k 0)=false:=by
       rcases h12 with h1|h1
       ·rw[if_pos h1,Bool.eq_false_iff];exact fun h2=>hc (.inl ⟨h1,h2⟩)
       ·rw[if_neg (by omega),Bool.eq_false_iff];exact fun h2=>hc (.inr ⟨h1,h2⟩)
      simp only[B1R,if_neg hs9,if_pos h12];rw[C4R h hf];simp
     ·simp only[B1R,if_neg hs9,if_neg h12]
theorem C52 (s:List UInt8):B2M s=Q5 s:=by
 obtain⟨h1,h2⟩:=B8d s s.length (H7 _);rw[<-h1,B2M];generalize A6v s s.length=x at h2;obtain⟨st,out⟩:=x;dsimp only at h2 |-;unfold B1R
 split
 ·rw[C0z (H7 _),A5V _ _ (by simp)];simp
 ·split
  ·rename_i h12
   have hne:=h2 h12;obtain⟨l0,t,rfl⟩:∃l0 t,out=l0++ [t]:=⟨out.dropLast,out.getLast hne,(List.dropLast_concat_getLast hne).symm⟩;rw[C0z (H7 _),A5V _ _ (by simp)];simp
  ·rw[A5V _ _ (by simp)];simp
end Go.Sp
namespace Go.Fw
open Go.Sp
open Go
section
variable {P:Program}{N:Nat}{ds:List Deferred}{Q:Exit->Act->World->Prop}{l l':Log}{w w':World}{ops:Array Oper}{os:List Oper}{o:Oper}
variable {d:Nat}{ty:TypeId}{pos:String}{af:Array Edge}{g:Option (Nat×Bool)}{t t':TypeId}{x y z:Operand}{E:Ent}{I:P8}{H:List HItem}
theorem C5F {kt et:TypeId} [TyMap P t kt et] [TyInt P kt .i64] {b:Nat}{es:A1U}{s:Int}{zv:Value} (hw:X9 ops l ⟨some d,.lookup t x y false,ty,pos,af,g⟩=some true) (hN:Nat.blt d N=true)
  (hx:ev l x=some (.map (some b))) (hy:ev l y=some (A5R s)) (hm:MapAtZ w b es) (hz:∀w,(zeroValue et).run P w=.ok zv w)
  (k:WL P N ds ops Q os ((d,A8Z es s zv)::l) w):
  WL P N ds ops Q (⟨some d,.lookup t x y false,ty,pos,af,g⟩::os) l w:=
 X6 rfl hw hN (fun _ ha=>A9z ha hx hy hm.out hz) k
theorem B4n {kt et:TypeId} [TyMap P t kt et] [TyInt P kt .i64] {i b:Nat}{es:A1U}{s:Int}{v:Value}{dst:Option Nat} (hm:Mem E I H w) (hd:dst=none) (hw:X9 ops l ⟨dst,.insert t x y z,ty,pos,af,g⟩=some true)
  (hx:ev l x=some (.map (some b))) (hy:ev l y=some (A5R s)) (hz:ev l z=some v) (hi:H[i]?=some (.mz b es)) (hn:(es.map (·.1)).Nodup) (hs:(es.map (·.1)).contains s=false)
  (k:∀w',Mem E I (H.set i (.mz b (es++ [(s,v)]))) w'->WL P N ds ops Q os l w'):
  WL P N ds ops Q (⟨dst,.insert t x y z,ty,pos,af,g⟩::os) l w:=
 C5E hd hw hx hy hz ⟨hm.get hi,hn⟩ hs (fun w' h1 hk=>k w' (hm.turn hi (by simpa[HItem.blk] using hk) h1.out (.inl rfl)))
theorem B9D {kt et:TypeId} [TyMap P t kt et] [TyInt P kt .i64] {i b:Nat}{es:A1U}{s:Int}{zv:Value} (hm:Mem E I H w) (hw:X9 ops l ⟨some d,.lookup t x y false,ty,pos,af,g⟩=some true) (hN:Nat.blt d N=true)
  (hx:ev l x=some (.map (some b))) (hy:ev l y=some (A5R s)) (hi:H[i]?=some (.mz b es)) (hn:(es.map (·.1)).Nodup) (hz:∀w,(zeroValue et).run P w=.ok zv w)
  (k:WL P N ds ops Q os ((d,A8Z es s zv)::l) w):
  WL P N ds ops Q (⟨some d,.lookup t x y false,ty,pos,af,g⟩::os) l w:=
 C5F hw hN hx hy ⟨hm.get hi,hn⟩ hz k
theorem D6x {kt et:TypeId} [TyMap P t kt et] [TyInt P kt .i64] {i b:Nat}{es:A1U}{s:Int}{v:Value}{dst:Option Nat} (hm:Mem E I H w) (hd:dst=none) (hw:X9 ops l ⟨dst,.insert t x y z,ty,pos,af,g⟩=some true)
  (hx:ev l x=some (.map (some b))) (hy:ev l y=some (A5R s)) (hz:ev l z=some v) (hi:H[i]?=some (.mz b es)) (hn:(es.map (·.1)).Nodup)
  (k:∀w',Mem E I (H.set i (.mz b (A4A es s v))) w'->WL P N ds ops Q os l w'):
  WL P N ds ops Q (⟨dst,.insert t x y z,ty,pos,af,g⟩::os) l w:=by
 cases hf:es.findIdx? (fun p=>decide (p.1=s)) with
 |none=>
  have hs:(es.map (·.1)).contains s=false:=by
   rw[<-A9s,A3l];intro h1;obtain⟨p,hp,hps⟩:=Y7.1 h1;have:=A4m.1 hf p hp;simp[hps]at this
  have e:A4A es s v=es++ [(s,v)]:=by rw[A4A,hf]
  rw[e]at k;exact B4n hm hd hw hx hy hz hi hn hs k
 |some j=>
  obtain⟨hj,hsj,_⟩:=A3k.1 hf;have hsj':es[j].1=s:=by simpa using hsj
  have e:A4A es s v=es.set j (s,v):=by rw[A4A,hf]
  rw[e]at k;have hget:=hm.get hi;subst hd;refine B6e hw fun a ha=>?_
  have h1:=run_underlying (P:=P) (w:=w) (TyMap.out (P:=P) (t:=t));have hk:=TyInt.out (P:=P) (t:=kt);have h2:=A8w (P:=P) (w:=w) hk s es 0;have h3:=A7V (P:=P) (w:=w) hk s false;have h4:=MapKept.run_getObj_map (P:=P) hget;rw[hf]at h2;have hg:es[j]?=some es[j]:=F9 hj;simp only[A2i,hg,A1g,V9]at h2;have h5:=fun o'=>MapKept.run_setObj_map (P:=P) o' hget
  have hkey:(A2R es 0).toArray[j]?=some { key:=A5R s,val:=es[j].2,born:=j}:=by
   simp[A2R,hg,hsj']
  have h6:(Instr.keyThatStays (A5R s) (A5R s)).run P w=.ok (A5R s) w:=by
   have:Instr.sameBits 10000 (A5R s) (A5R s)=true:=by simp[Instr.sameBits]
   simp[Instr.keyThatStays,this]
  have hb:=A3n hget;have hkept:Kept [b] w { w with heap:=w.heap.setIfInBounds b (.map ((A2R es 0).toArray.modify j (fun e=> { e with key:=A5R s,val:=v})) es.length)}:=
   ⟨rfl,rfl,rfl,by simp,fun i hi hx=>by
    have:b≠i:=by rintro rfl;simp at hx
    simp[A5Z this]⟩
  have hm':=hm.turn (h':=.mz b (es.set j (s,v))) hi (by simpa[HItem.blk] using hkept) (by
   show HItem.ok _ _
   have e2:=B0z es j s v;simp only[HItem.ok, <-e2,A29];simp[hb]) (.inl rfl)
  have h7:=(k _ hm').run _ ha;simp only[Oper.wp,execOp,Instr.mapUpdate,ha.ev hx,ha.ev hy,ha.ev hz,Sem.run_bind,h1,Result.andThen_ok,h4,h3,h2,hkey,A1g,Option.getD_some,h6,h5,Oper.upon_skip,Act.put,Sem.run_pure];simpa only[List.modify_toArray] using h7
end
end Go.Fw
namespace Go.Sp
theorem B58 (its:List Itm) (k:Nat):A6R its (k+1)=A6R its k++(A3x its k).us:=by
 rw[A6R,A28,X0, <-A6R];simp
theorem B2W {s:List UInt8}{w:NW} (h:w.ok s) (a e:Nat) (n:List UInt8):(w.tell a e n).ok s:=h
theorem D3a {s:List UInt8}{w:NW} (h:w.ok s) {p a d:Nat}{n:List UInt8}{b e:Int} (hb:b=p) (he:e=d) (hn:n≠ []) (h1:A1j s (p+a) n) (h2:A1j s d n):(w.use b a n e).ok s:=by
 intro u hu;rcases Y5.1 hu with hu|hu
 ·exact h u hu
 ·obtain rfl:=A0q.1 hu
  exact⟨p+a,d,n,by dsimp only;omega,by dsimp only;omega,he,hn,h1,h2⟩
def B1H (s:List UInt8) (p:Nat) (q:List UInt8):Prop:= ∀a n,A1j q a n->A1j s (p+a) n
section
variable {s q:List UInt8}{p:Nat}{its:List Itm}{sc:List Lc}
theorem C7m (hb:B1H s p q) (hsc:A8y q sc) {a:Nat}{n:List UInt8} (hst:A1j q a n) {w:NW} (hw:w.ok s):(A8i p sc a n w).ok s:=by
 rw[A8i];split
 ·rename_i l hl
  obtain⟨hm,hn⟩:=A8Q hl;obtain⟨h1,h2⟩:=hsc _ hm;rw[hn]at h1 h2;exact D3a hw rfl (d:=p+l.at_) (by omega) h1 (hb _ _ hst) (hb _ _ h2)
 ·split
  ·exact hw
  ·exact B2W hw _ _ _
theorem C0L (hi:∀x∈its,B0u s x) (hb:B1H s p q) (k:Int) {a:Nat}{n:List UInt8} (hst:A1j q a n) {w:NW} (hw:w.ok s):(A5Y its p k a n w).ok s:=by
 rw[A5Y];split
 ·rename_i j hj
  obtain⟨h1,d,h2,h3⟩:=B9j hi hj;exact D3a hw rfl h2 h1 (hb _ _ hst) h3
 ·split
  ·exact hw
  ·exact B2W hw _ _ _
theorem D0f (hi:∀x∈its,B0u s x) (hb:B1H s p q) {a:Nat}{n:List UInt8} (hst:A1j q a n) (m:Nat) {w:NW} (hw:w.ok s):(A5x its p a n m w).ok s:=by
 have h:=C0L hi hb 2 hst hw;rw[A5x];split
 ·split
  ·exact B2W h _ _ _
  ·exact h
 ·exact h
theorem D1r (hsc:A8y q sc) {a:Nat}{n:List UInt8} (hst:A1j q a n) {w:NW} (hw:w.ok s):A8y q (mkN n a sc w).1/\(mkN n a sc w).2.ok s:=by
 rw[mkN];split
 ·exact⟨hsc,hw⟩
 ·rename_i hn
  refine⟨B5v hsc hn hst,?_⟩
  dsimp only
  split
  ·exact B2W hw _ _ _
  ·exact hw
mutual
theorem D0A (hi:∀x∈its,B0u s x) (hb:B1H s p q) (hsc:A8y q sc):∀(e:Ex),e.all (stE q)->∀ {w:NW},w.ok s->(exN its p sc e w).ok s
 | .mk k nm n args f t,h,w,hw=>by
  rw[Ex.all]at h;rw[exN];refine C61 hi hb hsc args h.2 ?_
  have h1:=h.1;split
  ·rename_i hk;exact C7m hb hsc (h1 (.inl hk)) hw
  ·split
   ·rename_i hk;exact D0f hi hb (h1 (.inr hk)) _ hw
   ·exact hw
theorem C61 (hi:∀x∈its,B0u s x) (hb:B1H s p q) (hsc:A8y q sc):∀(l:List Ex),A2D (stE q) l->∀ {w:NW},w.ok s->(A5t its p sc l w).ok s
 | [],_,w,hw=>by rw[A5t];exact hw
 |e::l,h,w,hw=>by
  rw[A2D]at h;rw[A5t];exact C61 hi hb hsc l h.2 (D0A hi hb hsc e h.1 hw)
 end
mutual
theorem D46 (hi:∀x∈its,B0u s x) (hb:B1H s p q):∀(x:Stm),x.all (stE q) (stS q)->∀ {sc:List Lc},A8y q sc->∀ {w:NW},w.ok s->A8y q (A57 its p x sc w).1/\(A57 its p x sc w).2.ok s
 | .mk k nm a lb o e thn els f t,h,sc,hsc,w,hw=>by
  rw[Stm.all]at h;obtain⟨h1,h2,h3,h4⟩:=h;have he:=D0A hi hb hsc e h2 hw;rw[A57];split
  ·rename_i hk;exact D1r hsc (h1 (.inl hk)) he
  ·split
   ·rename_i hk;exact⟨hsc,C7m hb hsc (h1 (.inr (.inl hk))) he⟩
   ·split
    ·rename_i hk;exact⟨hsc,C0L hi hb 1 (h1 (.inr (.inr hk))) he⟩
    ·split
     ·exact⟨hsc,(B4C hi hb els h4 hsc (B4C hi hb thn h3 hsc he).2).2⟩
     ·exact⟨hsc,he⟩
theorem B4C (hi:∀x∈its,B0u s x) (hb:B1H s p q):∀(l:List Stm),A0e (stE q) (stS q) l->∀ {sc:List Lc},A8y q sc->∀ {w:NW},w.ok s->A8y q (A1w its p l sc w).1/\(A1w its p l sc w).2.ok s
 | [],_,sc,hsc,w,hw=>by rw[A1w];exact⟨hsc,hw⟩
 |x::l,h,sc,hsc,w,hw=>by
  rw[A0e]at h;rw[A1w];have h1:=D46 hi hb x h.1 hsc hw;exact B4C hi hb l h.2 h1.1 h1.2
 end
theorem C7y:∀(l:List Par),(∀x∈l,A1j q x.at_ x.name)->∀ {sc:List Lc},A8y q sc->∀ {w:NW},w.ok s->A8y q (A34 l sc w).1/\(A34 l sc w).2.ok s
 | [],_,sc,hsc,w,hw=>by rw[A34];exact⟨hsc,hw⟩
 |x::l,h,sc,hsc,w,hw=>by
  rw[A34];have h1:=D1r hsc (h x O4) hw;exact C7y l (fun y hy=>h y (Z4 _ hy)) h1.1 h1.2
theorem C7O (hi:∀x∈its,B0u s x) (hb:B1H s p q):∀(l:List Rf),(∀x∈l,A1j q x.at_ x.name)->∀ {dn:List Rf}{w:NW},w.ok s->(A6P its p dn l w).ok s
 | [],_,dn,w,hw=>by rw[A6P];exact hw
 |x::l,h,dn,w,hw=>by
  rw[A6P];refine C7O hi hb l (fun y hy=>h y (Z4 _ hy)) ?_
  have h1:=C0L hi hb 1 (h x O4) hw;rw[A56];split
  ·exact B2W h1 _ _ _
  ·exact h1
theorem D6r (hi:∀x∈its,B0u s x) {it:Itm} (h:ItS s p q it) {w:NW} (hw:w.ok s):(fnN its it w).ok s:=by
 have hb:B1H s p q:=h.sub;rw[fnN,h.at_];have h1:=C7y it.params h.params C3O hw;exact(B4C hi hb it.body h.body h1.1 (C7O hi hb it.sends h.sends h1.2)).2
theorem D3f (hi:∀x∈its,B0u s x) {i:Nat} (hlt:i<its.length):(A3x its i).ok s:=by
 have hm:X7 its i∈its:=by rw[X7,N9,F9 hlt];exact O1 hlt
 obtain⟨p,q,h⟩:=hi _ hm;have h0:NW0.ok s:=fun u hu=>by cases hu
 have h1:(if A8p its i (X7 its i)=true then NW0.tell (X7 its i).mark 7 (X7 its i).name else NW0).ok s:=by
  split
  ·exact B2W h0 _ _ _
  ·exact h0
 rw[A3x];split
 ·exact D6r hi h h1
 ·exact h1
theorem C4d (hi:∀x∈its,B0u s x):∀u∈A2c its,D5F s u:=fun u hu=>by
 rw[A2c,A6R,A3S]at hu;obtain⟨i,h1,h2⟩:=hu;exact D3f hi (A1P.1 h1) u h2
end
theorem D2E (b:Int) (x:Stm):B3j b x=(if x.kind=1/\x.name≠ [] then [⟨x.name,b+x.at_⟩] else [])++(A1D b x.thn++A1D b x.els):=by cases x;rw[B3j];rfl
theorem B3R (b:Int):∀(l r:List Stm),A1D b (l++r)=A1D b l++A1D b r
 | [],r=>by rw[A1D];rfl
 |x::l,r=>by rw[Q8,A1D,A1D,B3R b l r,J5]
theorem C31 (b:Int) {l:List Stm}{k:Nat}{x:Stm} (h:l[k]?=some x):A1D b (l.take (k+1))=A1D b (l.take k)++B3j b x:=by
 rw[U2 h,B3R,A1D,A1D,J4]
theorem C5q {its:List Itm}{k:Nat}{it:Itm} (h:its[k]?=some it):A3g (its.take (k+1))=A3g (its.take k)++C0H it:=by
 rw[A3g,U2 h,X0, <-A3g];simp
theorem C87 {l:List Pl}{k:Nat}{d:Pl} (h:l[k]?=some d) (df:Int):B0Z (l.take (k+1)) df=if d.at_=df then d.name else B0Z (l.take k) df:=by
 rw[B0Z,U2 h,A5c];rfl
theorem B7y {us:List Us}{k:Nat}{u:Us} (h:us[k]?=some u) (df:Int):A4z (us.take (k+1)) df=A4z (us.take k) df++(if u.df=df then [u.fr] else []):=by
 rw[A4z,U2 h,A8V,V5, <-A4z];by_cases e:u.df=df
 ·simp[e]
 ·simp[e]
theorem C1N {l:List Int}{k:Nat}{z:Int} (h:l[k]?=some z) (a:Int):A9H (l.take (k+1)) a=A9H (l.take k) a+(if z<a then 1 else 0):=by
 rw[A9H,U2 h,A8V,D9, <-A9H];by_cases e:z<a
 ·simp[e]
 ·simp[e]
theorem B99 {s:List UInt8}{a b:Tok} (ha:a∈Q5 s) (hb:b∈Q5 s) (h:a.pos<=b.pos):a=b\/a.pos+a.text.length<=b.pos:=by
 obtain⟨i,hi,rfl⟩:=A2r ha;obtain⟨j,hj,rfl⟩:=A2r hb;rcases Nat.lt_trichotomy i j with h1|h1|h1
 ·exact .inr (A3y.1 (A4v s) i j hi hj h1)
 ·subst h1;exact .inl rfl
 ·have h2:=A3y.1 (A4v s) j i hj hi h1
  have h3:=(A2C s _ hb).len;omega
theorem B4x {s:List UInt8}{a b:Nat}{n m:List UInt8} (h1:A1j s a n) (h2:A1j s b m) (hn:n≠ []) (hm:m≠ []) (h:a<b):a+n.length<=b:=by
 obtain⟨_,k,hk⟩:=h1.2.2 hn;obtain⟨_,j,hj⟩:=h2.2.2 hm;rcases B99 hk hj (Nat.le_of_lt h) with h3|h3
 ·injection h3 with _ _ h3;omega
 ·exact h3
theorem B2l {s:List UInt8}{a:Nat}{n m:List UInt8} (h1:A1j s a n) (h2:A1j s a m) (hn:n≠ []) (hm:m≠ []):n=m:=by
 obtain⟨_,k,hk⟩:=h1.2.2 hn;obtain⟨_,j,hj⟩:=h2.2.2 hm;rcases B99 hk hj (H7 _) with h3|h3
 ·injection h3
 ·have:0<n.length:=A24.2 hn
  simp only at h3;omega
def C8b (s:List UInt8) (d:Pl):Prop:=d.name≠ []/\∃p:Nat,d.at_=p/\A1j s p d.name
section
variable {s q:List UInt8}{p:Nat}
mutual
theorem D2F (hb:B1H s p q):∀(x:Stm),x.all (stE q) (stS q)->∀d∈B3j p x,C8b s d
 | .mk k nm a lb o e thn els f t,h,d,hd=>by
  rw[Stm.all]at h;rw[B3j,Y5,Y5]at hd;rcases hd with hd|hd|hd
  ·split at hd
   ·rename_i hk
    obtain rfl:=A0q.1 hd;exact⟨hk.2,p+a,by simp,hb _ _ (h.1 (.inl hk.1))⟩
   ·cases hd
  ·exact B2T hb thn h.2.2.1 d hd
  ·exact B2T hb els h.2.2.2 d hd
theorem B2T (hb:B1H s p q):∀(l:List Stm),A0e (stE q) (stS q) l->∀d∈A1D p l,C8b s d
 | [],_,d,hd=>by rw[A1D]at hd;cases hd
 |x::l,h,d,hd=>by
  rw[A0e]at h;rw[A1D,Y5]at hd;rcases hd with hd|hd
  ·exact D2F hb x h.1 d hd
  ·exact B2T hb l h.2 d hd
 end
theorem D32 {it:Itm} (h:ItS s p q it):∀d∈C0H it,C8b s d:=by
 intro d hd;rw[C0H]at hd;split at hd
 ·cases hd
 ·rename_i hn
  rw[h.at_,W9,Y5]at hd;rcases hd with rfl|hd|hd
  ·exact⟨fun e=>hn (.inr e),p+it.mark,by simp,h.sub _ _ h.mark⟩
  ·obtain⟨x,hx,hd⟩:=A3S.1 hd
   rw[A7v]at hd;split at hd
   ·rename_i hx0
    obtain rfl:=A0q.1 hd;exact⟨hx0,p+x.at_,by simp,h.sub _ _ (h.params x hx)⟩
   ·cases hd
  ·exact B2T h.sub it.body h.body d hd
theorem B7L {its:List Itm} (h:∀it∈its,B0u s it):∀d∈A3g its,C8b s d:=by
 intro d hd;obtain⟨it,hi,hd⟩:=A3S.1 hd;obtain⟨p,q,h1⟩:=h it hi;exact D32 h1 d hd
end
theorem C4G (d:List Int) (h:d.Pairwise (· <= ·)):∀m,m<=d.length->(Go.Lib.compactUpTo d.toArray m).Pairwise (· < ·)/\(∀x∈Go.Lib.compactUpTo d.toArray m,x∈d/\∃j,j<m/\x=d.getD j 0)/\(∀j,j<m->d.getD j 0∈Go.Lib.compactUpTo d.toArray m):=by
 have hget:∀j,d.toArray[j]! =d.getD j 0:=fun j=>by
  rw[getElem!_def,A4n,N9];cases d[j]? <;>rfl
 have hle:∀i j,i<=j->j<d.length->d.getD i 0<=d.getD j 0:=fun i j h1 h2=>by
  rw[N9,N9,F9 h2,F9 (by omega)];rcases U9 i j with h3|h3
  ·exact A3y.1 h i j (by omega) h2 h3
  ·obtain rfl:i=j:=by omega
   exact Int.le_refl _
 intro m;induction m with
 |zero=>intro _;simp[Go.Lib.compactUpTo]
 |succ m ih=>
  intro hm;obtain⟨i1,i2,i3⟩:=ih (by omega);rw[Go.Lib.compactUpTo_succ];have hmem:d.getD m 0∈d:=by
   rw[N9,F9 (by omega)];exact O1 _
  split
  ·rename_i hk
   rw[hget];refine⟨A3R.2 ⟨i1,B3H _ _,fun x hx y hy=>?_⟩,fun x hx=>?_,fun j hj=>?_⟩
   ·obtain rfl:=A0q.1 hy
    obtain⟨_,j,hj,rfl⟩:=i2 x hx;have hk2:d.getD m 0≠d.getD (m-1) 0:=by
     simp only[Go.Lib.keeps,hget]at hk;have:m≠0:=by omega
     simpa[this] using hk
    have h1:=hle (m-1) m (by omega) (by omega);have h2:=hle j (m-1) (by omega) (by omega);omega
   ·rcases Y5.1 hx with hx|hx
    ·obtain⟨h1,j,hj,h2⟩:=i2 x hx
     exact⟨h1,j,by omega,h2⟩
    ·obtain rfl:=A0q.1 hx
     exact⟨hmem,m,by omega,rfl⟩
   ·rcases U9 j m with h1|h1
    ·exact A1E _ (i3 j h1)
    ·obtain rfl:j=m:=by omega
     exact A1m _ (A0q.2 rfl)
  ·rename_i hk
   rw[J4];refine⟨i1,fun x hx=>?_,fun j hj=>?_⟩
   ·obtain⟨h1,j,hj,h2⟩:=i2 x hx
    exact⟨h1,j,by omega,h2⟩
   ·rcases U9 j m with h1|h1
    ·exact i3 j h1
    ·obtain rfl:j=m:=by omega
     simp only[Go.Lib.keeps,hget]at hk;by_cases h0:j=0
     ·simp[h0]at hk
     ·have:d.getD j 0=d.getD (j-1) 0:=by simpa[h0] using hk
      rw[this];exact i3 _ (by omega)
theorem B2I (its:List Itm) (df:Int):(A2d its df).Pairwise (· < ·)/\∀x,x∈A2d its df↔x=df\/∃u∈A2c its,u.df=df/\u.fr=x:=by
 have hs:((df::A4z (A2c its) df).mergeSort (fun x y=>decide (x<=y))).Pairwise (· <= ·):=by
  have:=List.pairwise_mergeSort (le:=fun x y:Int=>decide (x<=y)) (fun a b c h1 h2=>by simp only[decide_eq_true_eq]at *;omega) (fun a b=>by simp only[A1f,decide_eq_true_eq];omega) (df::A4z (A2c its) df);simpa using this
 have hmem:∀x,x∈(df::A4z (A2c its) df).mergeSort (fun x y=>decide (x<=y))↔x=df\/∃u∈A2c its,u.df=df/\u.fr=x:=fun x=>by
  rw[List.mem_mergeSort,W9,A4z,Y7];simp only[List.mem_filter,decide_eq_true_eq,and_assoc]
 rw[A2d];generalize (df::A4z (A2c its) df).mergeSort (fun x y=>decide (x<=y))=d at hs hmem;obtain⟨h1,h2,h3⟩:=C4G d hs d.length (H7 _);have e:Go.Lib.compact d=Go.Lib.compactUpTo d.toArray d.length:=by simp[Go.Lib.compact]
 rw[e];refine⟨h1,fun x=>⟨fun hx=>(hmem x).1 (h2 x hx).1,fun hx=>?_⟩⟩
 obtain⟨j,hj,rfl⟩:=A2r ((hmem x).2 hx);have:=h3 j hj
 rwa [N9,F9 hj]at this
theorem B9M {s:List UInt8}{its:List Itm} (h:∀it∈its,B0u s it) {at_ df:Int} (hd:B42 its at_=some df):∃n,n≠ []/\(∀x∈A2d its df,∃p:Nat,x=p/\A1j s p n)/\(B0Z (A3g its) df= []\/B0Z (A3g its) df=n):=by
 have hu:=C4d h;have hm:=B7L h;obtain⟨n,p,hn,hp,hst⟩:∃(n:List UInt8) (p:Nat),n≠ []/\df=p/\A1j s p n:=by
  rw[B42]at hd;split at hd
  ·rename_i u hu2
   injection hd with hd
   obtain⟨f,d,n,h1,h2,h3,h4,h5,h6⟩:=hu u (A7A hu2);exact⟨n,d,h4,by omega,h6⟩
  ·cases hf:C3G (A3g its) at_ with
   |none=>rw[hf]at hd;cases hd
   |some d=>
    rw[hf]at hd;simp only[A1g,X4]at hd;obtain⟨h1,p,h2,h3⟩:=hm d (A7A hf);exact⟨d.name,p,h1,by omega,h3⟩
 refine⟨n,hn,fun x hx=>?_,?_⟩
 ·rcases((B2I its df).2 x).1 hx with rfl|⟨u,hu1,hu2,rfl⟩
  ·exact⟨p,hp,hst⟩
  ·obtain⟨f,d,m,h1,h2,h3,h4,h5,h6⟩:=hu u hu1
   have:d=p:=by omega
   subst this;obtain rfl:=B2l h6 hst h4 hn;exact⟨f,h1,h5⟩
 ·have hfold:∀(l:List Pl) (o:List UInt8),(∀d∈l,C8b s d)->(o= []\/o=n)->(l.foldl (fun o d=>if d.at_=df then d.name else o) o= []\/l.foldl (fun o d=>if d.at_=df then d.name else o) o=n):=by
   intro l;induction l with
   |nil=>intro o _ h;exact h
   |cons d l ih=>
    intro o hl ho;rw[A07];refine ih _ (fun x hx=>hl x (Z4 _ hx)) ?_
    split
    ·rename_i he
     obtain⟨h1,p',h2,h3⟩:=hl d O4;have:p'=p:=by omega
     subst this;exact .inr (B2l h3 hst h1 hn)
    ·exact ho
  exact hfold _ _ hm (.inl rfl)
theorem C2a (s nm:List UInt8) (n:Nat) (z:Int):∀(l:List Int) (x:List UInt8×Int),A7r s nm n (l++ [z]) x=((A7r s nm n l x).1++((s.drop (A7r s nm n l x).2.toNat).take (z.toNat-(A7r s nm n l x).2.toNat)++nm),z+n)
 | [],x=>rfl
 |k::l,x=>by rw[Q8,A7r,A7r,C2a s nm n z l]
theorem B9b (s nm:List UInt8) (n:Nat) {l:List Int}{k:Nat}{z:Int} (h:l[k]?=some z) (x:List UInt8×Int):A7r s nm n (l.take (k+1)) x=((A7r s nm n (l.take k) x).1++((s.drop (A7r s nm n (l.take k) x).2.toNat).take (z.toNat-(A7r s nm n (l.take k) x).2.toNat)++nm),z+n):=by
 rw[U2 h,C2a]
theorem D0l {s nm m:List UInt8}{l:List Int} (hup:l.Pairwise (· < ·)) (hl:∀x∈l,∃p:Nat,x=p/\A1j s p m) (hm:m≠ []) (n:Nat) (hn:n=0\/n=m.length):∀k,k<=l.length->
  0<=(A7r s nm n (l.take k) ([],0)).2/\(A7r s nm n (l.take k) ([],0)).2<=s.length/\(∀z,l[k]?=some z->(A7r s nm n (l.take k) ([],0)).2<=z/\z<=s.length)/\((A7r s nm n (l.take k) ([],0)).1.length:Int)<=(A7r s nm n (l.take k) ([],0)).2+(k *nm.length:Nat):=by
 have hin:∀(j:Nat) (z:Int),l[j]?=some z->∃p:Nat,z=p/\A1j s p m:=fun j z h=>hl z (A03 h)
 intro k;induction k with
 |zero=>
  intro _;rw[Z9,A7r];refine⟨Int.le_refl _,Int.natCast_nonneg _,fun z hz=>?_,by simp⟩
  obtain⟨p,h1,h2,_⟩:=hin _ _ hz;dsimp only;omega
 |succ k ih=>
  intro hk;obtain⟨i1,i2,i3,i4⟩:=ih (by omega);have hg:l[k]?=some l[k]:=F9 (by omega);obtain⟨i5,i6⟩:=i3 _ hg;obtain⟨p,hp,hst⟩:=hin _ _ hg;rw[B9b s nm n hg];generalize A7r s nm n (l.take k) ([],0)=c at i1 i2 i4 i5;have hml:=hst.1;refine⟨by dsimp only;omega,by dsimp only;omega,fun z hz=>?_,?_⟩
  ·obtain⟨p2,hp2,hst2⟩:=hin _ _ hz
   have hlt:l[k]<z:=by
    obtain⟨hk1,rfl⟩:=A0D.1 hz;exact A3y.1 hup k (k+1) (by omega) hk1 (by omega)
   have:=B4x hst hst2 hm hm (by omega);have:=hst2.1;dsimp only;omega
  ·dsimp only
   rw[D9,D9,P9,A0v,A5J];omega
def scM (its:List Itm) (p:Int) (sc:List Lc):Prop:= ∀l∈sc,B6M its (p+l.at_)
section
variable {its:List Itm}{sc:List Lc}{p:Int}
theorem B2V {w:NW} (h:w.md its) (a e:Nat) (n:List UInt8):(w.tell a e n).md its:=h
theorem D29 {w:NW} (h:w.md its) {b:Int}{a:Nat}{n:List UInt8}{e:Int} (he:B6M its e):(w.use b a n e).md its:=by
 intro u hu;rcases Y5.1 hu with hu|hu
 ·exact h u hu
 ·obtain rfl:=A0q.1 hu
  exact he
theorem C7l (hsc:scM its p sc) {a:Nat}{n:List UInt8}{w:NW} (hw:w.md its):(A8i p sc a n w).md its:=by
 rw[A8i];split
 ·rename_i l hl
  exact D29 hw (hsc _ (A8Q hl).1)
 ·split
  ·exact hw
  ·exact B2V hw _ _ _
theorem C0K {k:Int} (hk:k≠3) {a:Nat}{n:List UInt8}{w:NW} (hw:w.md its):(A5Y its p k a n w).md its:=by
 rw[A5Y];split
 ·rename_i j hj
  obtain⟨h1,h2,h3,h4,h5⟩:=A3O hj;refine D29 hw ⟨⟨(X7 its j).name,(X7 its j).at_+(X7 its j).mark⟩,A3S.2 ⟨_,h5,?_⟩,rfl⟩
  rw[C0H,if_neg (fun hh=>hh.elim (fun h=>by omega) (fun h=>h4 (h3 ▸ h)))];exact O4
 ·split
  ·exact hw
  ·exact B2V hw _ _ _
theorem D0e {a:Nat}{n:List UInt8} (m:Nat) {w:NW} (hw:w.md its):(A5x its p a n m w).md its:=by
 have h:=C0K (its:=its) (p:=p) (k:=2) (by decide) (a:=a) (n:=n) hw;rw[A5x];split
 ·split
  ·exact B2V h _ _ _
  ·exact h
 ·exact h
theorem D1p (hsc:scM its p sc) {a:Nat}{n:List UInt8} (hn:n≠ []->B6M its (p+a)) {w:NW} (hw:w.md its):scM its p (mkN n a sc w).1/\(mkN n a sc w).2.md its:=by
 rw[mkN];split
 ·exact⟨hsc,hw⟩
 ·rename_i h0
  refine⟨fun l hl=>?_,?_⟩
  ·rcases Y5.1 hl with hl|hl
   ·exact hsc l hl
   ·obtain rfl:=A0q.1 hl
    exact hn h0
  ·dsimp only
   split
   ·exact B2V hw _ _ _
   ·exact hw
mutual
theorem D0y (hsc:scM its p sc):∀(e:Ex) {w:NW},w.md its->(exN its p sc e w).md its
 | .mk k nm n args f t,w,hw=>by
  rw[exN];refine C60 hsc args ?_
  split
  ·exact C7l hsc hw
  ·split
   ·exact D0e _ hw
   ·exact hw
theorem C60 (hsc:scM its p sc):∀(l:List Ex) {w:NW},w.md its->(A5t its p sc l w).md its
 | [],w,hw=>by rw[A5t];exact hw
 |e::l,w,hw=>by
  rw[A5t];exact C60 hsc l (D0y hsc e hw)
 end
mutual
theorem D45:∀(x:Stm),(∀d∈B3j p x,B6M its d.at_)->∀ {sc:List Lc},scM its p sc->∀ {w:NW},w.md its->scM its p (A57 its p x sc w).1/\(A57 its p x sc w).2.md its
 | .mk k nm a lb o e thn els f t,h,sc,hsc,w,hw=>by
  rw[B3j]at h;have he:=D0y hsc e hw;rw[A57];split
  ·rename_i hk
   refine D1p hsc (fun hn=>?_) he
   have:=h ⟨nm,p+a⟩ (A1E _ (by rw[if_pos ⟨hk,hn⟩];exact A0q.2 rfl));exact this
  ·split
   ·exact⟨hsc,C7l hsc he⟩
   ·split
    ·exact⟨hsc,C0K (by decide) he⟩
    ·split
     ·exact⟨hsc,(B4B els (fun d hd=>h d (A1m _ (A1m _ hd))) hsc (B4B thn (fun d hd=>h d (A1m _ (A1E _ hd))) hsc he).2).2⟩
     ·exact⟨hsc,he⟩
theorem B4B:∀(l:List Stm),(∀d∈A1D p l,B6M its d.at_)->∀ {sc:List Lc},scM its p sc->∀ {w:NW},w.md its->scM its p (A1w its p l sc w).1/\(A1w its p l sc w).2.md its
 | [],_,sc,hsc,w,hw=>by rw[A1w];exact⟨hsc,hw⟩
 |x::l,h,sc,hsc,w,hw=>by
  rw[A1D]at h;rw[A1w];have h1:=D45 x (fun d hd=>h d (A1E _ hd)) hsc hw;exact B4B l (fun d hd=>h d (A1m _ hd)) h1.1 h1.2
 end
theorem C7x:∀(l:List Par),(∀x∈l,x.name≠ []->B6M its (p+x.at_))->∀ {sc:List Lc},scM its p sc->∀ {w:NW},w.md its->scM its p (A34 l sc w).1/\(A34 l sc w).2.md its
 | [],_,sc,hsc,w,hw=>by rw[A34];exact⟨hsc,hw⟩
 |x::l,h,sc,hsc,w,hw=>by
  rw[A34];have h1:=D1p hsc (h x O4) hw;exact C7x l (fun y hy=>h y (Z4 _ hy)) h1.1 h1.2
theorem C7N:∀(l:List Rf) {dn:List Rf}{w:NW},w.md its->(A6P its p dn l w).md its
 | [],dn,w,hw=>by rw[A6P];exact hw
 |x::l,dn,w,hw=>by
  rw[A6P];refine C7N l ?_
  have h1:=C0K (its:=its) (p:=p) (k:=1) (by decide) (a:=x.at_) (n:=x.name) hw;rw[A56];split
  ·exact B2V h1 _ _ _
  ·exact h1
theorem D3b (hn:∀it∈its,it.kind=2->it.name≠ []):∀u∈A2c its,B6M its u.df:=fun u hu=>by
 rw[A2c,A6R,A3S]at hu;obtain⟨i,h1,h2⟩:=hu;have hlt:=A1P.1 h1;have hm:X7 its i∈its:=by rw[X7,N9,F9 hlt];exact O1 hlt
 generalize X7 its i=it at hm;have h0:NW0.md its:=fun u hu=>by cases hu
 revert u
 show (A3x its i).md its
 have hm:X7 its i∈its:=by rw[X7,N9,F9 hlt];exact O1 hlt
 have h1:(if A8p its i (X7 its i)=true then NW0.tell (X7 its i).mark 7 (X7 its i).name else NW0).md its:=by
  split
  ·exact B2V h0 _ _ _
  ·exact h0
 rw[A3x];split
 ·rename_i hk
  have hpl:∀d∈(X7 its i).params.flatMap (A7v (X7 its i).at_)++A1D (X7 its i).at_ (X7 its i).body,B6M its d.at_:=fun d hd=>by
   refine⟨d,A3S.2 ⟨_,hm,?_⟩,rfl⟩
   rw[C0H,if_neg (fun hh=>hh.elim (fun h=>by omega) (fun h=>hn _ hm hk h))];exact Z4 _ hd
  rw[fnN];have h2:=C7x (its:=its) (p:=(X7 its i).at_) (X7 its i).params (fun x hx hx0=>hpl ⟨x.name,(X7 its i).at_+x.at_⟩ (A1E _ (A3S.2 ⟨x,hx,by rw[A7v,if_pos hx0];exact A0q.2 rfl⟩))) (sc:= []) (fun l h=>by cases h) h1;exact(B4B (X7 its i).body (fun d hd=>hpl d (A1m _ hd)) h2.1 (C7N (X7 its i).sends h2.2)).2
 ·exact h1
end
def B5u (r R:List UInt8):Prop:=(r= []/\R= [])\/∃a r' b R',r=a::r'/\R=b::R'/\(a=b\/A0n a=true/\A0n b=true)
theorem A2G {a:UInt8} (h:A0n a=true):A0I a=false/\a.toNat≠35/\A01 a=true/\A0C a=false/\A6M a=true:=by
 simp only[A0n,A1f,Q3,decide_eq_true_eq]at h;refine⟨?_,by omega,?_,?_,?_⟩
 ·simp only[A0I,Bool.or_eq_false_iff,decide_eq_false_iff_not];omega
 ·simp only[A01,A0n,A1f,Q3,decide_eq_true_eq];omega
 ·simp only[A0C,Bool.and_eq_false_iff,decide_eq_false_iff_not];omega
 ·simp only[A6M,decide_eq_true_eq];omega
theorem D2S {F:UInt8->Bool}{r R:List UInt8} (hF:∀a b,A0n a=true->A0n b=true->F a=F b) (h:B5u r R) (hr:r.takeWhile F= []):R.takeWhile F= []:=by
 rcases h with ⟨_,rfl⟩|⟨a,r',b,R',rfl,rfl,hab⟩
 ·rfl
 ·have ha:F a=false:=by
   cases hfa:F a with
   |false=>rfl
   |true=>rw[A1F,hfa]at hr;simp at hr
  have hb:F b=false:=by
   rcases hab with rfl|⟨h1,h2⟩
   ·exact ha
   ·rw[<-hF a b h1 h2];exact ha
  rw[A1F,hb];rfl
theorem D2R {F:UInt8->Bool}:∀ {x:List UInt8},(x.takeWhile F).length=x.length->x.all F=true
 | [],_=>rfl
 |c::x,h=>by
  rw[A1F]at h;cases hc:F c with
  |false=>rw[hc]at h;simp at h
  |true=>
   rw[hc]at h;simp only[if_true,E9]at h;rw[A42,hc,D2R (x:=x) (by omega)];rfl
theorem B4v {F:UInt8->Bool} (hF:∀a b,A0n a=true->A0n b=true->F a=F b) {x r R:List UInt8} (h:B5u r R) (hr:run F (x++r)=x.length+1):run F (x++R)=x.length+1:=by
 unfold run at hr |-
 rw[B8s]at hr |-;by_cases ha:x.all F=true
 ·rw[if_pos ha]at hr |-
  rw[D9]at hr;have:r.takeWhile F= []:=A05 (by omega);rw[D2S hF h this,J4];omega
 ·rw[if_neg ha]at hr
  exact absurd (D2R (x:=x) (F:=F) (by omega)) ha
theorem D2m {x r R:List UInt8}{y:List UInt8} (h:B5u r R) (hr:run A01 (x++r)=x.length+1) (hy:y.all A01=true):run A01 (y++R)=y.length+1:=by
 unfold run at hr |-
 rw[B8s]at hr;by_cases ha:x.all A01=true
 ·rw[if_pos ha,D9]at hr
  have:r.takeWhile A01= []:=A05 (by omega);rw[B8s,if_pos hy,D2S (fun a b h1 h2=>by rw[(A2G h1).2.2.1,(A2G h2).2.2.1]) h this,J4];omega
 ·rw[if_neg ha]at hr
  exact absurd (D2R (x:=x) (F:=A01) (by omega)) ha
theorem D1F {k:Nat}{c:UInt8}{x r R:List UInt8} (h:B5u r R) (h1:one (c::(x++r))=(k,x.length+1)):one (c::(x++R))=(k,x.length+1):=by
 have fB:=fun a b (h1:A0n a=true) (h2:A0n b=true)=>(A2G h1).1.trans (A2G h2).1.symm
 have fW:=fun a b (h1:A0n a=true) (h2:A0n b=true)=>(A2G h1).2.2.1.trans (A2G h2).2.2.1.symm
 have fD:=fun a b (h1:A0n a=true) (h2:A0n b=true)=>(A2G h1).2.2.2.1.trans (A2G h2).2.2.2.1.symm
 have fN:=fun a b (h1:A0n a=true) (h2:A0n b=true)=>(A2G h1).2.2.2.2.trans (A2G h2).2.2.2.2.symm
 simp only[one]at h1 |-;split at h1
 ·rename_i hc
  injection h1 with e1 e2
  rw[if_pos hc,B4v fB h e2,e1]
 ·rename_i hc
  rw[if_neg hc];split at h1
  ·rename_i hc2
   injection h1 with e1 e2
   rw[if_pos hc2,B4v fN h e2,e1]
  ·rename_i hc2
   rw[if_neg hc2];split at h1
   ·rename_i hc3
    injection h1 with e1 e2
    rw[if_pos hc3,B4v fW h e2,e1]
   ·rename_i hc3
    rw[if_neg hc3];split at h1
    ·rename_i hc4
     injection h1 with e1 e2
     rw[if_pos hc4,B4v fD h e2,e1]
    ·rename_i hc4
     rw[if_neg hc4];exact h1
theorem D1H {c d:UInt8}{x r R y:List UInt8} (h:B5u r R) (h1:one (c::(x++r))=(1,x.length+1)) (hd:A0n d=true) (hy:y.all A01=true):one (d::(y++R))=(1,y.length+1):=by
 obtain⟨g1,g2,g3,g4,g5⟩:=A2G hd;have hr:run A01 (x++r)=x.length+1:=by
  simp only[one]at h1;repeat' split at h1
  all_goals first
   |(injection h1 with e1 e2;exact e2)
   |(injection h1 with e1 e2<;>omega)
 simp only[one,g1,hd,if_neg g2,if_true,D2m h hr hy]
 rfl
theorem C5B {c:UInt8}{s:List UInt8} (h:(one (c::s)).1=1):A0n c=true:=by
 simp only[one]at h;repeat' split at h
 all_goals first|assumption|(exfalso;simp at h;done)
theorem C1e (H:Nat->Bool) (nm:List UInt8) (f p:Nat):rp H nm f [] p= []:=by cases f<;>simp[rp]
def C4r (H:Nat->Bool) (f:Nat) (s:List UInt8) (p:Nat):Prop:=match f with
 |0=>True
 |f+1=>s≠ []->(H p=true->(one s).1=1)/\C4r H f (s.drop (one s).2) (p+(one s).2)
theorem D8i {H:Nat->Bool}{d:UInt8}{y:List UInt8} (hd:A0n d=true):∀(f:Nat) (s:List UInt8) (p:Nat),s.length<=f->C4r H f s p->B5u s (rp H (d::y) f s p)
 |0,s,p,hl,_=>by
  have:s= []:=A05 (by omega);subst this;exact .inl ⟨rfl,rfl⟩
 |f+1,s,p,hl,hh=>by
  cases s with
  |nil=>exact .inl ⟨rfl,C1e _ _ _ _⟩
  |cons c s=>
   rw[C4r]at hh;obtain⟨h1,_⟩:=hh (by simp);rw[rp,if_neg (by simp)];have hle:=(A6N (c::s) (by simp)).1;by_cases hp:H p=true
   ·rw[if_pos hp]
    exact .inr ⟨c,s,d,_,rfl,rfl,.inr ⟨C5B (h1 hp),hd⟩⟩
   ·rw[if_neg hp]
    obtain⟨m,hm⟩:∃m,(one (c::s)).2=m+1:=⟨(one (c::s)).2-1,by omega⟩;rw[hm,A09];exact .inr ⟨c,s,c,_,rfl,rfl,.inl rfl⟩
theorem C7I {H:Nat->Bool}{d:UInt8}{y:List UInt8} (hd:A0n d=true) (hy:y.all A01=true):∀(f:Nat) (s:List UInt8) (p q:Nat),s.length<=f->C4r H f s p->
  (tk (rp H (d::y) f s p) q).map (fun t=>(t.kind,t.text))=(tk s p).map (fun t=>(t.kind,if H t.pos=true then d::y else t.text))
 |0,s,p,q,hl,_=>by
  have:s= []:=A05 (by omega);subst this
  rfl
 |f+1,s,p,q,hl,hh=>by
  cases s with
  |nil=>rw[C1e];rfl
  |cons c s=>
   rw[C4r]at hh;obtain⟨h1,h2⟩:=hh (by simp);have hle:=A6N (c::s) (by simp);have hst:=A58 (c::s) p (by simp);have hhd:=D8i (y:=y) hd f ((c::s).drop (one (c::s)).2) (p+(one (c::s)).2) (by rw[A0v];omega) h2;have ih:=fun q=>C7I hd hy f ((c::s).drop (one (c::s)).2) (p+(one (c::s)).2) q (by rw[A0v];omega) h2
   rw[rp,if_neg (by simp),hst];obtain⟨m,hm⟩:∃m,(one (c::s)).2=m+1:=⟨(one (c::s)).2-1,by omega⟩;obtain⟨k,hk⟩:∃k,(one (c::s)).1=k:=⟨_,rfl⟩;rw[hm]at hhd ih hle |-;rw[hk]at h1 |-;rw[List.drop_succ_cons]at hhd ih |-;rw[A09];generalize hR:rp H (d::y) f (s.drop m) (p+(m+1))=R at hhd ih |-;have hml:(s.take m).length=m:=by rw[P9];simp only[E9]at hle;omega
   have hone:one (c::(s.take m++s.drop m))=(k,(s.take m).length+1):=by
    rw[A23,hml, <-hm, <-hk]
   by_cases hp:H p=true
   ·rw[if_pos hp]
    have hk1:=h1 hp;subst hk1;have ho:=D1H (y:=y) hhd hone hd hy;rw[Q8,A58 _ _ (by simp),ho,V5,V5];have e1:(d::(y++R)).drop (y.length+1)=R:=by simp
    have e2:(d::(y++R)).take (y.length+1)=d::y:=by simp
    dsimp only
    rw[e1,e2,ih];simp[hp]
   ·rw[if_neg hp]
    have ho:=D1F hhd hone;rw[Q8,A58 _ _ (by simp),ho,V5,V5];have e1:(c::(s.take m++R)).drop ((s.take m).length+1)=R:=by simp
    have e2:(c::(s.take m++R)).take ((s.take m).length+1)=c::s.take m:=by simp
    dsimp only
    rw[e1,e2,ih]
    congr 1
    split
    ·simp[hp]
    ·rfl
def rep (s nm:List UInt8) (n:Nat):Nat->List Nat->List UInt8
 |p,[]=>s.drop p
 |p,k::l=>(s.drop p).take (k-p)++(nm++rep s nm n (k+n) l)
theorem C2b (s nm:List UInt8) (n:Nat):∀(l:List Nat) (out:List UInt8) (p:Nat),(A7r s nm n (l.map (fun z:Nat=>(z:Int))) (out,(p:Int))).1++s.drop (A7r s nm n (l.map (fun z:Nat=>(z:Int))) (out,(p:Int))).2.toNat=out++rep s nm n p l
 | [],out,p=>by rw[A5K,A7r,rep];simp
 |k::l,out,p=>by
  have ih:=C2b s nm n l (out++((s.drop p).take (k-p)++nm)) (k+n);rw[U4,A7r];dsimp only
  rw[show ((k:Nat):Int)+(n:Int)=((k+n:Nat):Int) by omega,A1R,A1R,ih,rep];simp only[J5]
theorem C3k (s nm:List UInt8) (n:Nat) (l:List Nat):B4o s nm n (l.map (fun z:Nat=>(z:Int)))=rep s nm n 0 l:=by
 have:=C2b s nm n l [] 0;rw[B4o];simpa using this
theorem D2g (s nm:List UInt8) (n p m:Nat) {l:List Nat} (h:∀z∈l,p+m<=z):rep s nm n p l=(s.drop p).take m++rep s nm n (p+m) l:=by
 cases l with
 |nil=>rw[rep,rep, <-A4c,A23]
 |cons k l=>
  have hk:=h k O4;rw[rep,rep, <-J5 (bs:=List.take _ _), <-A4c, <-List.take_add,show m+(k-(p+m))=k-p by omega]
theorem C70 {s:List UInt8}{p:Nat}{t:Tok} (h:t∈tk s p):p<=t.pos:=by
 obtain⟨n,hn,rfl⟩:=A2r h;exact(C7Z s.length s p n _ rfl (F9 hn)).1
theorem C5Z (s nm:List UInt8) (n:Nat) (H:Nat->Bool):∀(f p:Nat) (l:List Nat),s.length-p<=f->l.Pairwise (· < ·)->(∀z∈l,∃t∈tk (s.drop p) p,t.pos=z/\t.kind=1/\t.text.length=n)->
  (∀x,p<=x->(H x=true↔x∈l))->rep s nm n p l=rp H nm f (s.drop p) p/\C4r H f (s.drop p) p
 |0,p,l,hf,_,hl,_=>by
  have hd:s.drop p= []:=List.drop_eq_nil_of_le (by omega);rw[hd]at hl |-;cases l with
  |nil=>exact⟨by rw[rep,hd,C1e],trivial⟩
  |cons k l=>
   obtain⟨t,ht,_⟩:=hl k O4;cases ht
 |f+1,p,l,hf,hup,hl,hH=>by
  by_cases hs:s.drop p= []
  ·rw[hs]at hl
   cases l with
   |nil=>exact⟨by rw[rep,hs,C1e],by rw[hs];exact fun h=>absurd rfl h⟩
   |cons k l=>
    obtain⟨t,ht,_⟩:=hl k O4;cases ht
  ·have hst:=A58 (s.drop p) p hs
   have hle:=A6N (s.drop p) hs;have hpl:p<s.length:=by
    rcases U9 p s.length with h|h
    ·exact h
    ·exact absurd (List.drop_eq_nil_of_le h) hs
   rw[rp,if_neg hs,C4r,A4c];rw[A4c]at hst;obtain⟨m,hm⟩:∃m,(one (s.drop p)).2=m:=⟨_,rfl⟩;obtain⟨k,hk⟩:∃k,(one (s.drop p)).1=k:=⟨_,rfl⟩;rw[hm]at hst hle |-;rw[hk]at hst |-;have hln:=hle.2;rw[A0v]at hln;have hfirst:∀t∈tk (s.drop p) p,t.pos=p->t=⟨k,(s.drop p).take m,p⟩/\k>0:=fun t ht hp=>by
    rw[hst]at ht;rcases Y5.1 ht with ht|ht
    ·split at ht
     ·exact⟨A0q.1 ht,by assumption⟩
     ·cases ht
    ·have:=C70 ht
     omega
   have hrest:∀t∈tk (s.drop p) p,p<t.pos->t∈tk (s.drop (p+m)) (p+m):=fun t ht hp=>by
    rw[hst]at ht;rcases Y5.1 ht with ht|ht
    ·split at ht
     ·have:=A0q.1 ht
      subst this;dsimp only at hp;omega
     ·cases ht
    ·exact ht
   by_cases hp:H p=true
   ·have hin:=(hH p (H7 _)).1 hp
    rw[if_pos hp];cases l with
    |nil=>cases hin
    |cons z l=>
     obtain⟨u1,u2⟩:=A17.1 hup;have hz:z=p:=by
      rcases W9.1 hin with h|h
      ·exact h.symm
      ·have h1:=u1 _ h
       obtain⟨t,ht,h2,_⟩:=hl z O4;have:=C70 ht;omega
     subst hz;obtain⟨t,ht,h2,h3,h4⟩:=hl z O4;obtain⟨h5,_⟩:=hfirst t ht h2;subst h5;dsimp only at h3 h4;have hmn:m=n:=by rw[P9,A0v]at h4;omega
     subst hmn;have ih:=C5Z s nm m H f (z+m) l (by omega) u2 (fun x hx=>by
      obtain⟨t,ht,g1,g2⟩:=hl x (Z4 _ hx);have:=u1 x hx;exact⟨t,hrest t ht (by omega),g1,g2⟩) (fun x hx=>by
      rw[hH x (by omega),W9];constructor
      ·rintro(h|h)
       ·omega
       ·exact h
      ·exact .inr)
     refine⟨?_,fun _=>⟨fun _=>h3,ih.2⟩⟩
     rw[rep,A4d,Z9,L9,ih.1]
   ·rw[if_neg hp]
    have hgt:∀z∈l,∃t∈tk (s.drop (p+m)) (p+m),t.pos=z/\t.kind=1/\t.text.length=n:=fun z hz=>by
     obtain⟨t,ht,g1,g2⟩:=hl z hz;have h1:=C70 ht;have h2:z≠p:=fun e=>hp ((hH p (H7 _)).2 (e ▸ hz))
     exact⟨t,hrest t ht (by omega),g1,g2⟩
    have ih:=C5Z s nm n H f (p+m) l (by omega) hup hgt (fun x hx=>hH x (by omega));refine⟨?_,fun _=>⟨fun h=>absurd h hp,ih.2⟩⟩
    rw[D2g s nm n p m (fun z hz=>by
     obtain⟨t,ht,g1,_⟩:=hgt z hz;have:=C70 ht;omega),ih.1]
theorem C80 {s nm:List UInt8}{n:Nat}{l:List Nat} (hw:A9l nm=true) (hup:l.Pairwise (· < ·)) (hl:∀z∈l,∃t∈Q5 s,t.pos=z/\t.kind=1/\t.text.length=n):
  (Q5 (B4o s nm n (l.map (fun z:Nat=>(z:Int))))).map (fun t=>(t.kind,t.text))=(Q5 s).map (fun t=>(t.kind,if t.pos∈l then nm else t.text)):=by
 simp only[A9l,Q3,decide_eq_true_eq]at hw;obtain⟨⟨⟨h1,h2⟩,h3⟩,h4⟩:=hw;cases nm with
 |nil=>simp at h1
 |cons d y=>
  rw[List.getD_cons_zero]at h3;rw[A42,Q3]at h4;obtain⟨r1,r2⟩:=C5Z s (d::y) n (fun x=>decide (x∈l)) s.length 0 l (by omega) hup hl (fun x _=>decide_eq_true_iff);rw[A2t]at r1 r2;rw[C3k,r1];have:=C7I h3 h4.2 s.length s 0 0 (H7 _) r2;simp only[decide_eq_true_eq]at this;exact this
theorem C86 {s:List UInt8}{its:List Itm} (h:∀it∈its,B0u s it) {p:Nat}{n:List UInt8} (hst:A1j s p n) (hn:n≠ []) (hmd:B6M its p):B0Z (A3g its) p=n:=by
 have hm:=B7L h;have hfold:∀(l:List Pl) (o:List UInt8),(∀d∈l,C8b s d)->(o=n\/∃d∈l,d.at_=(p:Int))->l.foldl (fun o d=>if d.at_=(p:Int) then d.name else o) o=n:=by
  intro l;induction l with
  |nil=>
   rintro o _ (h|⟨d,hd,_⟩)
   ·exact h
   ·cases hd
  |cons d l ih=>
   intro o hl ho;rw[A07];refine ih _ (fun x hx=>hl x (Z4 _ hx)) ?_
   by_cases he:d.at_=(p:Int)
   ·rw[if_pos he]
    obtain⟨h1,p',h2,h3⟩:=hl d O4;have:p'=p:=by omega
    subst this;exact .inl (B2l h3 hst h1 hn)
   ·rw[if_neg he]
    rcases ho with h|⟨x,hx,he2⟩
    ·exact .inl h
    ·rcases W9.1 hx with rfl|hx
     ·exact absurd he2 he
     ·exact .inr ⟨x,hx,he2⟩
 exact hfold _ [] hm (.inr hmd)
theorem C5V {s:List UInt8}{its:List Itm} (h:∀it∈its,B0u s it) (hk:∀it∈its,it.kind=2->it.name≠ []) {at_ df:Int} (hd:B42 its at_=some df):
  ∃(n:List UInt8) (ls:List Nat) (d:Nat),n≠ []/\df=d/\d∈ls/\A2d its df=ls.map (fun z:Nat=>(z:Int))/\ls.Pairwise (· < ·)/\(∀z∈ls,A1j s z n)/\B0Z (A3g its) df=n:=by
 obtain⟨n,hn,hpl,_⟩:=B9M h hd;obtain⟨hup,hpm⟩:=B2I its df;have hmd:B6M its df:=by
  rw[B42]at hd;split at hd
  ·rename_i u hu
   injection hd with hd
   rw[<-hd];exact D3b hk u (A7A hu)
  ·cases hf:C3G (A3g its) at_ with
   |none=>rw[hf]at hd;cases hd
   |some d=>
    rw[hf]at hd;simp only[A1g,X4]at hd;exact⟨d,A7A hf,hd⟩
 have hdm:df∈A2d its df:=(hpm df).2 (.inl rfl);obtain⟨d,hdd,hds⟩:=hpl df hdm;have e:A2d its df=((A2d its df).map Int.toNat).map (fun z:Nat=>(z:Int)):=by
  rw[A3s];conv=>lhs;rw[<-List.map_id (A2d its df)]
  refine List.map_congr_left fun x hx=>?_
  obtain⟨p,hp,_⟩:=hpl x hx;simp only[id,Function.comp];omega
 refine⟨n,(A2d its df).map Int.toNat,d,hn,hdd,?_,e,?_,?_,?_⟩
 ·exact Y7.2 ⟨df,hdm,by omega⟩
 ·rw[List.pairwise_map]
  refine hup.imp_of_mem fun {a b} ha hb hab=>?_
  obtain⟨p,hp,_⟩:=hpl a ha;obtain⟨q,hq,_⟩:=hpl b hb;omega
 ·intro z hz
  obtain⟨x,hx,rfl⟩:=Y7.1 hz;obtain⟨p,hp,hst⟩:=hpl x hx;rw[hp];exact hst
 ·rw[hdd]at hmd |-
  exact C86 h hds hn hmd
theorem C7E (s nm:List UInt8) (n:Nat):∀(l:List Nat) (p:Nat),p<=s.length->(∀z∈l,p<=z/\z+n<=s.length)->l.Pairwise (fun a b=>a+n<=b)->(rep s nm n p l).length+l.length *n+p=s.length+l.length *nm.length
 | [],p,hp,_,_=>by rw[rep];simp;omega
 |k::l,p,hp,hl,hc=>by
  obtain⟨h1,h2⟩:=hl k O4;obtain⟨u1,u2⟩:=A17.1 hc;have ih:=C7E s nm n l (k+n) h2 (fun z hz=>⟨u1 z hz,(hl z (Z4 _ hz)).2⟩) u2;rw[rep,D9,D9,P9,A0v,E9,A5J,A5J];omega
theorem D1B {s nm n:List UInt8}{ls:List Nat} (hn:n≠ []) (hup:ls.Pairwise (· < ·)) (hst:∀z∈ls,A1j s z n):(B4o s nm n.length (ls.map (fun z:Nat=>(z:Int)))).length+ls.length *n.length=s.length+ls.length *nm.length:=by
 rw[C3k];have:=C7E s nm n.length ls 0 (H9 _) (fun z hz=>⟨H9 _,(hst z hz).1⟩) (hup.imp_of_mem fun {a b} ha hb hab=>B4x (hst a ha) (hst b hb) hn hn hab);omega
theorem D01 {s n:List UInt8}{ls:List Nat} (hn:n≠ []) (hup:ls.Pairwise (· < ·)) (hst:∀z∈ls,A1j s z n):((Q5 s).filter (fun t=>decide (t.pos∈ls))).length=ls.length:=by
 have h1:(((Q5 s).filter (fun t=>decide (t.pos∈ls))).map (·.pos)).Nodup:=by
  have hs:=(A4v s).imp_of_mem (S:=fun a b=>a.pos<b.pos) fun {a b} ha hb hab=>by
   have:=(A2C s a ha).len;omega
  rw[List.nodup_iff_pairwise_ne,List.pairwise_map];exact(hs.sublist List.filter_sublist).imp fun h=>Nat.ne_of_lt h
 have h2:ls.Nodup:=hup.imp fun h=>Nat.ne_of_lt h
 have h3:=(List.perm_ext_iff_of_nodup h1 h2).2 (fun x=>by
  constructor
  ·intro hx
   obtain⟨t,ht,rfl⟩:=Y7.1 hx;exact of_decide_eq_true (List.mem_filter.1 ht).2
  ·intro hx
   obtain⟨_,k,hk⟩:=(hst x hx).2.2 hn;exact Y7.2 ⟨_,List.mem_filter.2 ⟨hk,by simpa using hx⟩,rfl⟩)
 have:=h3.length_eq
 rwa [P7]at this
theorem C88 {s nm n:List UInt8}{ls:List Nat} (hw:A9l nm=true) (hn:n≠ []) (hup:ls.Pairwise (· < ·)) (hst:∀z∈ls,A1j s z n):
  (Q5 (B4o s nm n.length (ls.map (fun z:Nat=>(z:Int))))).map (·.text)=(Q5 s).map (fun t=>if t.pos∈ls then nm else t.text):=by
 have h:=C80 (s:=s) (nm:=nm) (n:=n.length) (l:=ls) hw hup (fun z hz=>by
  obtain⟨hwn,k,hk⟩:=(hst z hz).2.2 hn;refine⟨_,hk,rfl,?_,rfl⟩
  have ho:=(A2C s _ hk).one.1;have ht:=(A2C s _ hk).text;dsimp only at ho ht |-;rw[ho];have hpos:=(A2C s _ hk).pos;dsimp only at hpos;simp only[name,A9l,Q3,decide_eq_true_eq]at hwn;obtain⟨_,⟨⟨w1,w2⟩,w3⟩,w4⟩:=hwn;cases hd:s.drop z with
  |nil=>rw[List.drop_eq_nil_iff]at hd;omega
  |cons c r=>
   rw[hd]at ht;cases n with
   |nil=>exact absurd rfl hn
   |cons a n=>
    rw[E9,A09]at ht;injection ht with e1 e2
    subst e1;rw[List.getD_cons_zero]at w3;obtain⟨g1,g2,g3,g4,g5⟩:=A2G w3;simp[one,g1,w3,g2])
 have:=congrArg (List.map Prod.snd) h;rw[A3s,A3s]at this;exact this
def B5r:List UInt8:= [102,110,32,102,40,120,58,32,123,125,41,58,32,123,125,32,123,32,108,101,116,32,121,32,61,32,120,59,32,121,32,61,32,102,40,121,41,59,32,125]
def D2d:List UInt8:= [102,110,32,102,40,122,101,100,58,32,123,125,41,58,32,123,125,32,123,32,108,101,116,32,121,32,61,32,122,101,100,59,32,121,32,61,32,102,40,121,41,59,32,125]
def D5z:List UInt8:= [122,101,100]
theorem B8a:Y1 B5r=0:=by decide+kernel
theorem D2a:B42 (G8 B5r) 26=some 5:=by decide+kernel
theorem D4J:B42 (G8 B5r) 5=some 5:=by decide+kernel
theorem D19:A3H (G8 B5r)= []:=by decide+kernel
theorem D4K:A2d (G8 B5r) 5= [5,26]:=by
 have h:A4z (A2c (G8 B5r)) 5= [26]:=by decide+kernel
 rw[A2d,h,List.mergeSort_of_pairwise (by decide)];decide+kernel
theorem D2c:B0Z (A3g (G8 B5r)) 5= [120]:=by decide+kernel
theorem D2b:B4o B5r D5z ([120]:List UInt8).length [5,26]=D2d:=by decide+kernel
theorem D2f:Y1 D2d=0:=by decide+kernel
theorem D2e:A3H (G8 D2d)= []:=by decide+kernel
theorem C5Y:B3p (A2c (G8 B5r)) (A2c (G8 D2d)) [5,26] ((D5z.length:Int)-([120]:List UInt8).length)=true:=by decide+kernel
theorem D4L:toR B5r 5 D5z=(D2d,0):=by
 rw[toR,if_neg (by rw[B8a];decide),if_neg (by rw[D19];decide),D4J];dsimp only
 rw[if_neg (by decide),D4K,D2c];rw[D2b,if_neg (by rw[D2f];decide),if_neg (by rw[D2e];decide)];rw[if_neg (by rw[C5Y];decide)]
structure Done (s:List UInt8) (at_:Int) (nm:List UInt8) (df:Int):Prop where
 err:Y1 s=0
 clean:A3H (G8 s)= []
 def_:B42 (G8 s) at_=some df
 named:Sp.name nm=true
 tot:(toR s at_ nm).1=B4o s nm (B0Z (A3g (G8 s)) df).length (A2d (G8 s) df)
 err2:Y1 (toR s at_ nm).1=0
 clean2:A3H (G8 (toR s at_ nm).1)= []
 alike:B3p (A2c (G8 s)) (A2c (G8 (toR s at_ nm).1)) (A2d (G8 s) df) ((nm.length:Int)-(B0Z (A3g (G8 s)) df).length)=true
theorem D68 {s:List UInt8}{at_:Int}{nm:List UInt8} (h:(toR s at_ nm).2=0):∃df,Done s at_ nm df:=by
 have h0:=h;rw[toR]at h;by_cases h1:Y1 s≠0
 ·rw[if_pos h1]at h;exact absurd h h1
 rw[if_neg h1]at h;by_cases h2:A3H (G8 s)≠ []
 ·rw[if_pos h2]at h;cases h
 rw[if_neg h2]at h;cases h3:B42 (G8 s) at_ with
 |none=>rw[h3]at h;cases h
 |some df=>
  rw[h3]at h;dsimp only at h;by_cases h4:Sp.name nm=false
  ·rw[if_pos h4]at h;cases h
  rw[if_neg h4]at h;by_cases h5:Y1 (B4o s nm (B0Z (A3g (G8 s)) df).length (A2d (G8 s) df))≠0
  ·rw[if_pos h5]at h;exact absurd h h5
  rw[if_neg h5]at h;by_cases h6:A3H (G8 (B4o s nm (B0Z (A3g (G8 s)) df).length (A2d (G8 s) df)))≠ []
  ·rw[if_pos h6]at h;cases h
  rw[if_neg h6]at h;by_cases h7:B3p (A2c (G8 s)) (A2c (G8 (B4o s nm (B0Z (A3g (G8 s)) df).length (A2d (G8 s) df)))) (A2d (G8 s) df) ((nm.length:Int)-(B0Z (A3g (G8 s)) df).length)=false
  ·rw[if_pos h7]at h;cases h
  have e:(toR s at_ nm).1=B4o s nm (B0Z (A3g (G8 s)) df).length (A2d (G8 s) df):=by
   rw[toR,if_neg h1,if_neg h2,h3];dsimp only
   rw[if_neg h4,if_neg h5,if_neg h6,if_neg h7]
  exact⟨df,by simpa using h1,by simpa using h2,h3,by simpa using h4,e,by rw[e];simpa using h5,by rw[e];simpa using h6,by rw[e];simpa using h7⟩
theorem C4V {s:List UInt8} (h:A3H (G8 s)= []):∀it∈G8 s,it.kind=2->it.name≠ []:=fun it hit _=>by
 obtain⟨i,hi⟩:=A7C.1 hit;have hlt:=(A0D.1 hi).1;have hd:=(B30 h hlt).1;have hno:X7 (G8 s) i=it:=by rw[X7,N9,hi];rfl
 rw[hno]at hd;rw[G8]at hit;split at hit
 ·rw[A3Z,Y7]at hit
  obtain⟨j,_,rfl⟩:=hit;exact A7e (B49 _ _ hd).named
 ·cases hit
theorem D1I {s:List UInt8}{at_:Int}{nm:List UInt8}{df:Int} (h:Done s at_ nm df):
  ∃(n:List UInt8) (ls:List Nat) (d:Nat),df=d/\n≠ []/\(∃k,(⟨k,n,d⟩:Tok)∈Q5 s)/\ls.Nodup/\(∀x:Int,x∈ls.map (fun z:Nat=>(z:Int))↔x=df\/x∈A4z (A2c (G8 s)) df)/\
   (Q5 (toR s at_ nm).1).map (·.text)=(Q5 s).map (fun t=>if t.pos∈ls then nm else t.text)/\((Q5 s).filter (fun t=>decide (t.pos∈ls))).length=ls.length/\
   (toR s at_ nm).1.length+ls.length *n.length=s.length+ls.length *nm.length:=by
 obtain⟨n,ls,d,hn,hd,hdm,hp,hup,hst,hold⟩:=C5V (C2B s) (C4V h.clean) h.def_;have hw:A9l nm=true:=by
  have:=h.named;rw[name,Q3]at this;exact this.2
 refine⟨n,ls,d,hd,hn,(hst d hdm).2.2 hn|>.2,hup.imp fun h=>Nat.ne_of_lt h,fun x=>?_,?_,D01 hn hup hst,?_⟩
 ·rw[<-hp,(B2I (G8 s) df).2 x]
  refine or_congr Iff.rfl ?_
  rw[A4z,Y7];constructor
  ·rintro⟨u,hu,e1,e2⟩;exact⟨u,List.mem_filter.2 ⟨hu,by simpa using e1⟩,e2⟩
  ·rintro⟨u,hu,e2⟩
   obtain⟨h1,h2⟩:=List.mem_filter.1 hu;exact⟨u,h1,by simpa using h2,e2⟩
 ·rw[h.tot,hold,hp];exact C88 hw hn hup hst
 ·rw[h.tot,hold,hp];exact D1B hn hup hst
theorem C6v (u:Us) (l:List Us) (at_:Int):B57 (u::l) at_=match decide (u.fr<=at_) && decide (at_<u.to) with|true=>some u|false=>B57 l at_:=by
 rw[B57,A4a];rfl
theorem B21 {src:List UInt8}{its:List Itm} (h:∀x∈its,ItN src x) (hf:its.length<=64):(A2c its).length<=100000000000:=by
 have key:∀k,k<=its.length->(A6R its k).length<=k *900000000:=by
  intro k;induction k with
  |zero=>intro _;simp[A6R]
  |succ k ih=>
   intro hk;rw[B58,D9];have h1:=ih (by omega);have h2:=B8z h (i:=k) (by omega);have h3:(A3x its k).us.length<=(A3x its k).n:=by rw[NW.n];omega
   omega
 have:=key its.length (H7 _);rw[A2c];omega
mutual
theorem C9A (b:Int):∀(x:Stm),(B3j b x).length<=x.cnt
 | .mk k nm a lb o e thn els f t=>by
  have h1:=B1h b thn;have h2:=B1h b els;rw[B3j,Stm.cnt,D9,D9];split
  ·simp only[E9,List.length_nil];omega
  ·simp only[List.length_nil];omega
theorem B1h (b:Int):∀(l:List Stm),(A1D b l).length<=U1 l
 | []=>by rw[A1D];exact H9 _
 |x::l=>by
  have h1:=C9A b x;have h2:=B1h b l;rw[A1D,U1,D9];omega
 end
theorem A8r (b:Int):∀(l:List Par),(l.flatMap (A7v b)).length<=l.length
 | []=>H7 _
 |p::l=>by
  have h1:=A8r b l;rw[A0c,D9,E9,A7v];split
  ·simp only[E9,List.length_nil];omega
  ·simp only[List.length_nil];omega
theorem C2R {it:Itm} (h:ItPl it):(C0H it).length<=400000070:=by
 have h1:=h.cnt;have h2:=h.small.params;have h3:=B1h it.at_ it.body;have h4:=A8r it.at_ it.params;rw[C0H];split
 ·exact H9 _
 ·rw[E9,D9];omega
theorem B2F:∀ {its:List Itm},(∀it∈its,ItPl it)->(A3g its).length<=its.length *400000070
 | [],_=>by simp[A3g]
 |it::its,h=>by
  have h1:=C2R (h it O4);have h2:=B2F (fun x hx=>h x (Z4 _ hx));rw[A3g,A0c,D9,E9,A5J];rw[A3g]at h2;omega
theorem C9i (d:Pl) (l:List Pl) (at_:Int):C3G (d::l) at_=match decide (d.at_<=at_) && decide (at_<d.at_+d.name.length) with|true=>some d|false=>C3G l at_:=by
 rw[C3G,A4a];rfl
theorem ItN.st0 {src:List UInt8}{it:Itm} (h:ItN src it):B0u src it:=by
 obtain⟨_,_,p,q,h3⟩:=h;exact⟨p,q,h3⟩
theorem D4b {src:List UInt8}{its:List Itm} (h:∀x∈its,ItN src x) (hs:src.length<=4000):∀d∈A3g its,0<=d.at_/\d.at_+d.name.length<=4000:=fun d hd=>by
 obtain⟨_,p,h1,h2,_⟩:=B7L (fun x hx=>(h x hx).st0) d hd;omega
theorem B3Z (us vs:List Us) (l:List Int) (more:Int) (k:Nat):A7M us vs l more (k+1)=(A7M us vs l more k && (decide (A9S l more (us.getD k ⟨0,0,0⟩).fr=(vs.getD k ⟨0,0,0⟩).fr) && decide (A9S l more (us.getD k ⟨0,0,0⟩).df=(vs.getD k ⟨0,0,0⟩).df))):=by
 rw[A7M,A28,A5G, <-A7M];simp
theorem C0k {us vs:List Us} (l:List Int) (more:Int) {k:Nat}{u v:Us} (hu:us[k]?=some u) (hv:vs[k]?=some v):A7M us vs l more (k+1)=(A7M us vs l more k && (decide (A9S l more u.fr=v.fr) && decide (A9S l more u.df=v.df))):=by
 have e1:us.getD k ⟨0,0,0⟩=u:=by rw[N9,hu];rfl
 have e2:vs.getD k ⟨0,0,0⟩=v:=by rw[N9,hv];rfl
 rw[B3Z,e1,e2]
theorem B27 {us vs:List Us}{l:List Int}{more:Int}{k:Nat} (h:A7M us vs l more (k+1)=false):∀n,k+1<=n->A7M us vs l more n=false:=by
 intro n hn;induction n with
 |zero=>omega
 |succ n ih=>
  rcases U9 k n with h1|h1
  ·rw[B3Z,ih (by omega)];rfl
  ·obtain rfl:n=k:=by omega
   exact h
theorem D7j {src:List UInt8}{its:List Itm} (h:∀x∈its,ItN src x) (hs:src.length<=4000):∀u∈A2c its,(0<=u.fr/\u.fr<=4000)/\0<=u.df/\u.df<=4000:=fun u hu=>by
 obtain⟨f,d,n,h1,h2,h3,h4,h5,h6⟩:=C4d (fun x hx=>(h x hx).st0) u hu;have h7:=h5.1;have h8:=h6.1;omega
def B1q (l:List Tok) (x:Int):List UInt8:=((l.find? (fun t=>decide ((t.pos:Int)=x))).map (·.text)).getD []
theorem B6f (t:Tok) (l:List Tok) (x:Int):B1q (t::l) x=if (t.pos:Int)=x then t.text else B1q l x:=by
 by_cases h:(t.pos:Int)=x
 ·rw[if_pos h,B1q,A4a,decide_eq_true h];rfl
 ·rw[if_neg h,B1q,A4a,decide_eq_false h];rfl
end Go.Sp
namespace Go.Fw
open Go.Sp
section
variable {P:Program}{N:Nat}{ds:List Deferred}{Q:Exit->Act->World->Prop}{l:Log}{w:World}{ops:Array Oper}{os:List Oper}
variable {d:Nat}{ty:TypeId}{pos:String}{af:Array Edge}{g:Option (Nat×Bool)}{t:TypeId}{x:Operand}{E:Ent}{I:P8}{H:List HItem}
theorem D6w {kt et:TypeId} [TyMap P t kt et] {i b:Nat}{es:A1U} (hm:Mem E I H w) (hw:X9 ops l ⟨some d,.call ⟨.builtin .len, #[x], #[t]⟩,ty,pos,af,g⟩=some true) (hN:Nat.blt d N=true)
  (hx:ev l x=some (.map (some b))) (hi:H[i]?=some (.mz b es)) (k:WL P N ds ops Q os ((d,.int .i64 (es.length:Int))::l) w):
  WL P N ds ops Q (⟨some d,.call ⟨.builtin .len, #[x], #[t]⟩,ty,pos,af,g⟩::os) l w:=
 X6 rfl hw hN (fun a ha=>by
  have h1:=run_underlying (P:=P) (w:=w) (TyMap.out (P:=P) (t:=t));have h4:=MapKept.run_getObj_map (P:=P) (hm.get hi);have h5:(A2R es 0).toArray.size=es.length:=by simp[A2R]
  simp[execOp,resolve,invoke,builtin,Builtin.len_,ha.ev hx,h1,h4,goInt,A2R]) k
end
structure HitZ (es:A1U) (L:List Int):Prop where
 nodup:(es.map (·.1)).Nodup
 all:∀p∈es,p.2=.bool true
 mem:∀x,x∈es.map (·.1)↔x∈L
theorem HitZ.look {es:A1U}{L:List Int} (h:HitZ es L) (k:Int):A8Z es k (.bool false)=.bool (decide (k∈L)):=by
 rw[A8Z];cases hf:es.find? (fun p=>decide (p.1=k)) with
 |none=>
  have:k∉L:=fun hk=>by
   rw[<-h.mem,Y7]at hk;obtain⟨p,hp,he⟩:=hk;have:=List.find?_eq_none.1 hf p hp;simp[he]at this
  rw[decide_eq_false this];rfl
 |some p=>
  have h1:=A7A hf;have h2:=List.find?_some hf;have h3:p.1=k:=by simpa using h2
  have:k∈L:=by rw[<-h.mem, <-h3];exact Y7.2 ⟨p,h1,rfl⟩
  rw[decide_eq_true this];simp only[A1g,Option.getD_some];exact h.all p h1
end Go.Fw
namespace Go.Sp
theorem C7D {t:List UInt8} (h:Y1 t=0):t.length<=4000:=by
 rw[Y1]at h;split at h
 ·cases h
 ·omega
theorem C9N {s n:List UInt8}{k d:Nat} (h:(⟨k,n,d⟩:Tok)∈Q5 s):B1q (Q5 s) d=n:=by
 have hs:=A4v s;have hl:∀t∈Q5 s,0<t.text.length:=fun t ht=>(A2C s t ht).len
 have key:∀(l:List Tok),l.Pairwise (fun a b=>a.pos+a.text.length<=b.pos)->(∀t∈l,0<t.text.length)->(⟨k,n,d⟩:Tok)∈l->B1q l d=n:=by
  intro l;induction l with
  |nil=>intro _ _ h;cases h
  |cons t l ih=>
   intro hs hl h;rw[A17]at hs;rw[B6f];rcases W9.1 h with rfl|h
   ·rw[if_pos rfl]
   ·have h1:=hs.1 _ h
    have h2:=hl t O4;dsimp only at h1;rw[if_neg (by omega)];exact ih hs.2 (fun x hx=>hl x (Z4 _ hx)) h
 exact key _ hs hl h
section
variable {its:List Itm}{sc:List Lc}{p:Int}
end
end Go.Sp
namespace Go.Fw
open Go.Sp
section
variable {P:Program}{N:Nat}{ds:List Deferred}{Q:Exit->Act->World->Prop}{l:Log}{w:World}{ops:Array Oper}{os:List Oper}
variable {d:Nat}{ty:TypeId}{pos:String}{af:Array Edge}{g:Option (Nat×Bool)}{t:TypeId}{x:Operand}{E:Ent}{I:P8}{H:List HItem}
end
theorem HitZ.one (k:Int):HitZ [(k,.bool true)] [k]:=⟨by simp,fun p hp=>by rw[A0q.1 hp],fun x=>by simp⟩
theorem HitZ.put {es:A1U}{L:List Int} (h:HitZ es L) (k:Int):HitZ (A4A es k (.bool true)) (L++ [k]):=
 ⟨B5V h.nodup,fun p hp=>by
  rcases C8V hp with hp|rfl
  ·exact h.all p hp
  ·rfl,fun x=>by rw[C5u,h.mem,Y5,A0q]⟩
theorem HitZ.len {es:A1U}{L:List Int} (h:HitZ es L) {R:List Int} (hR:R.Nodup) (hm:∀x,x∈R↔x∈L):es.length=R.length:=by
 have:=(List.perm_ext_iff_of_nodup h.nodup hR).2 (fun x=>by rw[h.mem,hm]);have:=this.length_eq
 rwa [P7]at this
end Go.Fw
namespace Go.Proofs
open Go.Proofs.Tryz
open Go.Sp
open Go.Fw
theorem B0y (l:List Sp.Tok):(l.flatMap A2a).length=l.length *3:=by
 induction l with
 |nil=>rfl
 |cons t l ih=>simp only[A0c,D9,ih,E9,A2a];simp;omega
theorem D4r {w w':World}{base e sz n g off cap:Nat}{xs:List Value}{cur:Array Value}{u:Value} (h:w.ownsRow base e sz (.slice (some ⟨g,0,none⟩) n cap) n xs)
  (hg:w.heap[g]?=some (.cells cur e (0,0))) (hb:w'.heap[g]?=some (.cells (cur.toList.take off++ [u]++cur.toList.drop (off+1)).toArray e (0,0))) (ho:off<n *sz):
  w'.ownsRow base e sz (.slice (some ⟨g,0,none⟩) n cap) n (xs.set off u):=by
 rcases h.2 with ⟨h1,_⟩|⟨g',cap',cur',hv,hbg,hg',hc,hm,hs,ht⟩
 ·cases h1
 ·injection hv with e1 e2 e3
  injection e1 with e1
  injection e1 with e1
  subst e1;subst e3;rw[hg]at hg';injection hg' with hg'
  injection hg' with e4
  subst e4;have hle:n *sz<=cur.size:=by rw[hs];exact A5a _ hc
  refine⟨by rw[A29];exact h.1,.inr ⟨g,cap,_,rfl,hbg,hb,hc,hm,?_,?_⟩⟩
  ·simp only[B0R,D9,P9,A0v,A5b,E9,List.length_nil];omega
  ·rw[<-ht]
   apply A3B
   intro j;simp only[A2M,A25,P9,A5b];by_cases h2:j<n *sz
   ·rw[if_pos h2,if_pos h2]
    by_cases h3:off=j
    ·subst h3
     rw[if_pos rfl,if_pos (by omega),J5,A2B (by simp;omega)];simp[show min off cur.size=off by omega]
    ·rw[if_neg h3]
     by_cases h4:j<off
     ·rw[J5,A4P (by simp;omega)]
      simp[h4]
     ·rw[A2B (by simp;omega)]
      simp only[D9,P9,A5b,E9,List.length_nil,A3m]
      congr 1;omega
   ·rw[if_neg h2]
    rw[if_neg (by omega)];simp[h2]
theorem C2o (l:List Sp.Tok) (t:Sp.Tok) (c:UInt8):((l++ [t]).flatMap A2a).set (l.length *3+1) (str (t.text++ [c]))=(A68 (l++ [t]) c).flatMap A2a:=by
 have e:A68 (l++ [t]) c=l++ [⟨t.kind,t.text++ [c],t.pos⟩]:=by simp[A68]
 rw[e,X0,X0,List.set_append_right _ _ (by rw[B0y];omega),B0y];rw[show l.length *3+1-l.length *3=1 by omega]
 rfl
theorem B84 (c:UInt8) (w:World):
  Cal prog 57 #[.int .u8 (c.toNat:Int)] w fun v w'=>v=.bool (A0n c)/\w'=w:=by
 refine enter (N:=21) func57 rfl [(0,.int .u8 (c.toNat:Int))] A0Z rfl ?_
 repeat' (first|refine D8 ?_|refine D6 ?_|refine O0 ?_|refine N7 ?_|refine A82 ?_|refine A11 ?_|refine O6 ?_|refine A0z ?_|(refine O3 (h1:=fun _=>?_) (h0:=fun _=>?_)<;>try first|contradiction|omega)|refine E5 ?_|refine A7 ?_|refine E8 ?_|refine A8 ?_|refine J3 ?_|refine J7 ?_)
 all_goals (refine⟨congrArg Value.bool ?_,rfl⟩;unfold A0n;rw[A06];simp;omega)
theorem C16 (c:UInt8) (w:World):
  Cal prog 58 #[.int .u8 (c.toNat:Int)] w fun v w'=>v=.bool (A0C c)/\w'=w:=by
 refine enter (N:=9) func58 rfl [(0,.int .u8 (c.toNat:Int))] A0Z rfl ?_
 repeat' (first|refine D8 ?_|refine D6 ?_|refine O0 ?_|refine N7 ?_|refine A82 ?_|refine A11 ?_|refine A0z ?_|(refine O3 (h1:=fun _=>?_) (h0:=fun _=>?_)<;>try first|contradiction|omega)|refine E5 ?_|refine A7 ?_|refine E8 ?_|refine A8 ?_|refine J3 ?_|refine J7 ?_)
 all_goals (refine⟨congrArg Value.bool ?_,rfl⟩;unfold A0C;rw[A06];simp;omega)
theorem D3D (c:UInt8) (w:World):
  Cal prog 59 #[.int .u8 (c.toNat:Int)] w fun v w'=>v=.bool (A6h c)/\w'=w:=by
 have hs:A6h c=(decide (c.toNat=40)||decide (c.toNat=41)||decide (c.toNat=123)||decide (c.toNat=125)||decide (c.toNat=44)||decide (c.toNat=58)||decide (c.toNat=59)||decide (c.toNat=61)||decide (c.toNat=43)||decide (c.toNat=45)||decide (c.toNat=42)||decide (c.toNat=60)):=by
  have e:∀n:UInt8,decide (n=c)=decide (c.toNat=n.toNat):=fun n=>by
   rw[A06,decide_eq_true_eq,decide_eq_true_eq, <-UInt8.toNat_inj];omega
  simp only[A6h,A7k,List.any_cons,List.any_nil,e,Bool.or_false,Bool.or_assoc]
  rfl
 rw[hs];clear hs;refine enter (N:=17) func59 rfl [(0,.int .u8 (c.toNat:Int))] A0Z rfl ?_
 repeat' (first|refine D8 ?_|refine D6 ?_|refine O6 ?_|refine E5 ?_|refine A7 ?_|refine H8 ?_|refine D7 ?_|refine O5 ?_|refine E8 ?_|refine A8 ?_|refine F6 ?_|refine G7 ?_|refine J3 ?_|refine J7 ?_|(refine C9 (ht:=fun _=>?_) (hf:=fun _=>?_)<;>try first|contradiction|omega))
 all_goals (refine⟨congrArg Value.bool ?_,rfl⟩;rw[A06];simp;omega)
structure RLoop where
 at_:Nat
 st:Nat
 out:Value
 acc:List Sp.Tok
theorem C8g (s:List UInt8) (hl:s.length<=1099511627776) (w:World):
  Cal prog 28 #[str s] w fun v w'=>w'.ownsRow w.heap.size 62 3 v (B2M s).length ((B2M s).flatMap A2a)/\Kept [] w w':=by
 refine enter (N:=120) func28 rfl [(0,str s)] A0Z rfl ?_
 repeat' (first|refine D8 ?_|refine D6 ?_|refine A0m ?_|refine E5 ?_|refine A7 ?_|refine E8 ?_|refine A8 ?_|refine F6 ?_)
 refine U3 (fun x:RLoop=> [(0,str s),(3,x.out),(4,.int .i64 (x.st:Int)),(9,.int .i64 (s.length:Int)),(10,.int .i64 (x.at_:Int))])
  (fun x w'=>x.at_<=s.length/\x.acc.length<=x.at_/\(x.st,x.acc)=A6v s x.at_/\((x.st=1\/x.st=2)->x.acc≠ [])/\(∀t∈x.acc,t.text.length<=x.at_)/\
   w'.ownsRow w.heap.size 62 3 x.out x.acc.length (x.acc.flatMap A2a)/\Kept [] w w')
  (fun x=>s.length-x.at_) ⟨0,0,.slice none 0 0,[]⟩ ⟨rfl,rfl,rfl,rfl,rfl,trivial⟩ ⟨by simp,by simp,by simp[A6v],by simp,by simp,World.ownsRow_nil _ _ _ _,Kept.refl _ _⟩ ?_
 rintro⟨k,st,out,acc⟩ w1 ⟨hk,hacc,heq,hst,htx,hown,hkept⟩;dsimp only at hk hacc heq hst htx hown hkept |-;have hC:(s.getD (k:Int).toNat 0)=s.getD k 0:=by simp
 repeat' (first|refine B4N 2 (fun _:Unit=> [(0,str s),(3,out),(4,.int .i64 (st:Int)),(5,.int .i64 (k:Int)),(6,.int .u8 ((s.getD k 0).toNat:Int)),(9,.int .i64 (s.length:Int)),(10,.int .i64 (k:Int))]) (fun _ w'=>w'=w1/\¬(st=9/\(s.getD k 0).toNat≠10)/\¬((st=1/\A01 (s.getD k 0)=true)\/(st=2/\A0C (s.getD k 0)=true))) ?_ ?_|refine B1p 8 (fun _:Unit=> [(0,str s),(3,out),(4,.int .i64 (st:Int)),(5,.int .i64 (k:Int)),(6,.int .u8 ((s.getD k 0).toNat:Int)),(9,.int .i64 (s.length:Int)),(10,.int .i64 (k:Int)),(23,.bool (decide ((st=1/\A01 (s.getD k 0)=true)\/(st=2/\A0C (s.getD k 0)=true))))]) (fun _ w'=>w'=w1) ?_ ?_|refine A0r (hc:=by exact B84 _ _) (k:=?_);rintro _ w1 ⟨rfl,rfl⟩|refine A0r (hc:=by exact C16 _ _) (k:=?_);rintro _ w1 ⟨rfl,rfl⟩|rintro⟨⟩ w1 rfl|refine D8 ?_|refine D6 ?_|refine O0 ?_|refine N7 ?_|refine J8 ?_|refine O6 ?_|refine A0w ?_|refine O9 ?_|refine A2n ?_|refine A0z ?_|(refine O3 (h1:=fun _=>?_) (h0:=fun _=>?_)<;>try first|contradiction|omega)|refine A3u (h1:=fun _=>?_) (h0:=fun _=>?_)<;>fail_if_success contradiction|refine E5 ?_|refine A7 ?_|refine H6 ?_|refine D7 ?_|refine G9 ?_|refine Z5 ?_|refine E8 ?_|refine A8 ?_|refine F6 ?_|refine G7 ?_|refine O8 ?_|refine J3 ?_|refine J7 ?_|refine H5 ?_|refine F7 ?_|(refine C9 (ht:=fun _=>?_) (hf:=fun _=>?_)<;>try first|contradiction|omega)|refine A2e (ht:=fun _=>?_) (hf:=fun _=>?_))
 ·rename_i h1 h2 h3
  refine L6 (⟨k+1,st,out,acc⟩:RLoop) (by exact⟨rfl,rfl,rfl,rfl,rfl,trivial⟩) ?_ (by dsimp only;omega)
  have:A6v s (k+1)=(st,acc):=by
   rw[A6v, <-heq,B9W,if_pos ⟨by dsimp only;omega,by simp only[hC]at h3;omega⟩]
  exact⟨by dsimp only;omega,by dsimp only;omega,this.symm,hst,fun t ht=>Nat.le_succ_of_le (htx t ht),hown,hkept⟩
 ·refine A0V () ⟨rfl,rfl,rfl,rfl,rfl,rfl,rfl,?_,trivial⟩ rfl
  refine congrArg (fun b=>some (Value.bool b)) ?_
  rw[A06];simp only[hC]at *;generalize s.getD k 0=c at *;cases hq:A0n c<;>cases hq':A0C c<;>simp_all [A01]<;>omega
 ·rename_i h1 h2 h3 h4
  exact A0V () ⟨rfl,rfl,rfl,rfl,rfl,rfl,rfl,trivial⟩ ⟨rfl,by rw[hC]at h3;omega,h4⟩
 ·refine A0V () ⟨rfl,rfl,rfl,rfl,rfl,rfl,rfl,?_,trivial⟩ rfl
  refine congrArg (fun b=>some (Value.bool b)) ?_
  rw[A06];simp only[hC]at *;generalize s.getD k 0=c at *;cases hq:A0n c<;>cases hq':A0C c<;>simp_all [A01]<;>omega
 ·refine A0V () ⟨rfl,rfl,rfl,rfl,rfl,rfl,rfl,?_,trivial⟩ rfl
  refine congrArg (fun b=>some (Value.bool b)) ?_
  rw[A06];simp only[hC]at *;generalize s.getD k 0=c at *;cases hq:A0n c<;>cases hq':A0C c<;>simp_all [A01]<;>omega
 ·refine A0V () ⟨rfl,rfl,rfl,rfl,rfl,rfl,rfl,?_,trivial⟩ rfl
  refine congrArg (fun b=>some (Value.bool b)) ?_
  rw[A06];simp only[hC]at *;generalize s.getD k 0=c at *;cases hq:A0n c<;>cases hq':A0C c<;>simp_all [A01]<;>omega
 ·refine A0V () ⟨rfl,rfl,rfl,rfl,rfl,rfl,rfl,?_,trivial⟩ rfl
  refine congrArg (fun b=>some (Value.bool b)) ?_
  rw[A06];simp only[hC]at *;generalize s.getD k 0=c at *;cases hq:A0n c<;>cases hq':A0C c<;>simp_all [A01]<;>omega
 ·refine A0V () ⟨rfl,rfl,rfl,rfl,rfl,rfl,rfl,?_,trivial⟩ rfl
  refine congrArg (fun b=>some (Value.bool b)) ?_
  rw[A06];simp only[hC]at *;generalize s.getD k 0=c at *;cases hq:A0n c<;>cases hq':A0C c<;>simp_all [A01]<;>omega
 ·rename_i h1 h2 h3
  have hne:acc≠ []:=hst (by omega);obtain⟨l0,t,rfl⟩:∃l0 t,acc=l0++ [t]:=⟨acc.dropLast,acc.getLast hne,(List.dropLast_concat_getLast hne).symm⟩;obtain⟨g,cap,cur,rfl,hbg,hg,hcap,hcur,hsz⟩:=B4p hown (by simp);have hlen:(l0++ [t]).length=l0.length+1:=by simp
  have hc1:cur[l0.length *3+1]?=some (str t.text):=hcur _ _ (by
   rw[X0,A2B (by rw[B0y];omega),B0y,show l0.length *3+1-l0.length *3=1 by omega];rfl)
  have htl:t.text.length<=k:=htx t (by simp);have hsz2:l0.length *3+3<=cur.size:=by rw[hsz];omega
  repeat' (first|refine A0b 15 (h:=?_)|refine A2V (hb:=hg) (hc:=by exact(congrArg (fun i=>cur[i]?) (by omega)).trans hc1) (k:=?_)|refine C9n ?_ (h:=by simp only[P9,A0v];omega)|refine B7U (by rfl) (by rfl) (by rfl) (by rfl) (by exact hkq.get0 hg) (by rfl) (by omega) (by rfl) ?_;intro w3 hb3 hk3|refine D8 ?_|refine D6 ?_|refine G6 ?_|refine O9 ?_|refine A5e ?_|refine E5 ?_|refine A7 ?_|refine H6 ?_|refine G9 ?_|refine Z5 ?_|refine E8 ?_|refine A8 ?_|refine O8 ?_|refine V6 ?_;intro _ hkq|refine Y4 ?_|refine A31 ?_|refine A9y ?_|refine L8 ?_|refine A1h (k:=?_))
  rename_i w2
  have hoff:0+(((l0++ [t]).length:Int)-1).toNat *3+1=l0.length *3+1:=by omega
  have hch:(s.drop (k:Int).toNat).take (((k:Int)+1).toNat-(k:Int).toNat)= [s.getD k 0]:=by
   rw[show ((k:Int)+1).toNat-(k:Int).toNat=1 by omega,A1R];exact B8o s k (by omega)
  rw[hoff,hch]at hb3;have hst2:=D4r (hkq.own hown (by simp)) (hkq.get0 hg) hb3 (by omega);rw[C2o]at hst2;have hal:A68 (l0++ [t]) (s.getD k 0)=l0++ [⟨t.kind,t.text++ [s.getD k 0],t.pos⟩]:=by simp[A68]
  have hrt:A6v s (k+1)=(st,A68 (l0++ [t]) (s.getD k 0)):=by
   rw[A6v, <-heq,B9W,if_neg (by dsimp only;omega),if_pos h3]
  refine L6 (⟨k+1,st,_,A68 (l0++ [t]) (s.getD k 0)⟩:RLoop) (by exact⟨rfl,rfl,rfl,rfl,rfl,trivial⟩) ?_ (by dsimp only;omega)
  refine⟨by dsimp only;omega,?_,hrt.symm,?_,?_,?_,?_⟩
  ·rw[hal];simp at hacc |-;omega
  ·rw[hal];simp
  ·rw[hal]
   intro u hu;rcases Y5.1 hu with h|h
   ·exact Nat.le_succ_of_le (htx u (by simp[h]))
   ·simp at h;subst h;simp;exact htl
  ·have:(A68 (l0++ [t]) (s.getD k 0)).length=(l0++ [t]).length:=by rw[hal];simp
   rw[this];exact hst2
  ·exact(hkept.step0 hkq).step hk3 (fun x hx=> .inr (by simp at hx;subst hx;exact hbg))
 ·rename_i h1 h2 h3
  exact A0V () ⟨rfl,rfl,rfl,rfl,rfl,rfl,rfl,trivial⟩ ⟨rfl,by omega,h3⟩
 ·rintro⟨⟩ w1' ⟨rfl,h2,h3⟩
  rename_i h1
  have hch:(s.drop (k:Int).toNat).take (((k:Int)+1).toNat-(k:Int).toNat)= [s.getD k 0]:=by
   rw[show ((k:Int)+1).toNat-(k:Int).toNat=1 by omega,A1R];exact B8o s k (by omega)
  repeat' (first|refine B4N 3 (fun x:RLoop=> [(0,str s),(3,x.out),(4,.int .i64 (x.st:Int)),(5,.int .i64 (k:Int)),(6,.int .u8 ((s.getD k 0).toNat:Int)),(9,.int .i64 (s.length:Int)),(10,.int .i64 (k:Int))]) (fun x w'=>((A2s (s.getD k 0)=3\/A2s (s.getD k 0)=4)->x.st=0/\x.acc=acc++ [⟨A2s (s.getD k 0),[s.getD k 0],k⟩])/\(¬(A2s (s.getD k 0)=3\/A2s (s.getD k 0)=4)->x.st=A2s (s.getD k 0)/\x.acc=acc)/\w'.ownsRow w.heap.size 62 3 x.out x.acc.length (x.acc.flatMap A2a)/\Kept [] w w') ?_ ?_|refine A0r (hc:=by exact B84 _ _) (k:=?_);rintro _ w1 ⟨rfl,rfl⟩|refine A0r (hc:=by exact C16 _ _) (k:=?_);rintro _ w1 ⟨rfl,rfl⟩|refine A0r (hc:=by exact D3D _ _) (k:=?_);rintro _ w1 ⟨rfl,rfl⟩|refine A7I (hown:=hown) (hbase:=by have:=hkept.size;omega) (k:=?_);intro v3 w3 hown3 hk3 hb3|refine D8 ?_|refine D6 ?_|refine O0 ?_|refine N7 ?_|refine O6 ?_|refine O9 ?_|refine A8u ?_|refine Y0 ?_|refine A0z ?_|(refine O3 (h1:=fun _=>?_) (h0:=fun _=>?_)<;>try first|contradiction|omega)|refine E5 ?_|refine A7 ?_|refine D7 ?_|refine E8 ?_|refine A8 ?_|refine F6 ?_|refine G7 ?_|refine H5 ?_|(refine C9 (ht:=fun _=>?_) (hf:=fun _=>?_)<;>try first|contradiction|omega)|refine A2e (ht:=fun _=>?_) (hf:=fun _=>?_))
  ·rename_i g0
   have hr:A2s (s.getD k 0)=0:=by simp only[A2s];rw[if_pos (by simp only[A0I,A1f,decide_eq_true_eq];omega)]
   exact A0V (⟨k,0,out,acc⟩:RLoop) ⟨rfl,rfl,rfl,rfl,rfl,rfl,rfl,trivial⟩ ⟨fun h=>by omega,fun _=>⟨hr.symm,rfl⟩,hown,hkept⟩
  ·rename_i g0 g1
   have hr:A2s (s.getD k 0)=0:=by simp only[A2s];rw[if_pos (by simp only[A0I,A1f,decide_eq_true_eq];omega)]
   exact A0V (⟨k,0,out,acc⟩:RLoop) ⟨rfl,rfl,rfl,rfl,rfl,rfl,rfl,trivial⟩ ⟨fun h=>by omega,fun _=>⟨hr.symm,rfl⟩,hown,hkept⟩
  ·rename_i g0 g1 g2
   have hr:A2s (s.getD k 0)=0:=by simp only[A2s];rw[if_pos (by simp only[A0I,A1f,decide_eq_true_eq];omega)]
   exact A0V (⟨k,0,out,acc⟩:RLoop) ⟨rfl,rfl,rfl,rfl,rfl,rfl,rfl,trivial⟩ ⟨fun h=>by omega,fun _=>⟨hr.symm,rfl⟩,hown,hkept⟩
  ·rename_i g1 g2 g3 g4
   have hr:A2s (s.getD k 0)=9:=by simp only[A2s];rw[if_neg (by simp only[A0I,A1f,decide_eq_true_eq];omega),if_pos (by omega)]
   exact A0V (⟨k,9,out,acc⟩:RLoop) ⟨rfl,rfl,rfl,rfl,rfl,rfl,rfl,trivial⟩ ⟨fun h=>by omega,fun _=>⟨hr.symm,rfl⟩,hown,hkept⟩
  ·rename_i g1 g2 g3 g4 g5
   have hr:A2s (s.getD k 0)=1:=by simp only[A2s];rw[if_neg (by simp only[A0I,A1f,decide_eq_true_eq];omega),if_neg (by omega),if_pos g5]
   exact A0V (⟨k,1,out,acc⟩:RLoop) ⟨rfl,rfl,rfl,rfl,rfl,rfl,rfl,trivial⟩ ⟨fun h=>by omega,fun _=>⟨hr.symm,rfl⟩,hown,hkept⟩
  ·rename_i g1 g2 g3 g4 g5 g6
   have hr:A2s (s.getD k 0)=2:=by simp only[A2s];rw[if_neg (by simp only[A0I,A1f,decide_eq_true_eq];omega),if_neg (by omega),if_neg (by rw[g5];simp),if_pos g6]
   exact A0V (⟨k,2,out,acc⟩:RLoop) ⟨rfl,rfl,rfl,rfl,rfl,rfl,rfl,trivial⟩ ⟨fun h=>by omega,fun _=>⟨hr.symm,rfl⟩,hown,hkept⟩
  ·rename_i g1 g2 g3 g4 g5 g6 g7
   have hr:A2s (s.getD k 0)=3:=by simp only[A2s];rw[if_neg (by simp only[A0I,A1f,decide_eq_true_eq];omega),if_neg (by omega),if_neg (by rw[g5];simp),if_neg (by rw[g6];simp),if_pos g7]
   rw[hch]at hown3;refine A0V (⟨k,0,v3,acc++ [⟨A2s (s.getD k 0),[s.getD k 0],k⟩]⟩:RLoop) ⟨rfl,rfl,rfl,rfl,rfl,rfl,rfl,trivial⟩ ⟨fun _=>⟨rfl,rfl⟩,fun h=>by omega,?_,?_⟩
   ·rw[hr];simpa[A2a,X0,Value.cells] using hown3
   ·exact hkept.step hk3 (fun x hx=> .inr (by
     cases ho:out.ownBlock with
     |none=>simp[ho]at hx
     |some g=>simp[ho]at hx;subst hx;exact(hown.lt _ ho).1))
  ·rename_i g1 g2 g3 g4 g5 g6 g7
   have hr:A2s (s.getD k 0)=4:=by simp only[A2s];rw[if_neg (by simp only[A0I,A1f,decide_eq_true_eq];omega),if_neg (by omega),if_neg (by rw[g5];simp),if_neg (by rw[g6];simp),if_neg (by rw[g7];simp)]
   rw[hch]at hown3;refine A0V (⟨k,0,v3,acc++ [⟨A2s (s.getD k 0),[s.getD k 0],k⟩]⟩:RLoop) ⟨rfl,rfl,rfl,rfl,rfl,rfl,rfl,trivial⟩ ⟨fun _=>⟨rfl,rfl⟩,fun h=>by omega,?_,?_⟩
   ·rw[hr];simpa[A2a,X0,Value.cells] using hown3
   ·exact hkept.step hk3 (fun x hx=> .inr (by
     cases ho:out.ownBlock with
     |none=>simp[ho]at hx
     |some g=>simp[ho]at hx;subst hx;exact(hown.lt _ ho).1))
  ·rintro⟨k',st',out',acc'⟩ w2 ⟨j1,j2,hown',hkept'⟩
   dsimp only at j1 j2 hown' |-;have hlen:acc'.length<=k+1:=by
    by_cases hc:A2s (s.getD k 0)=3\/A2s (s.getD k 0)=4
    ·rw[(j1 hc).2];simp;omega
    ·rw[(j2 hc).2];omega
   have hlen2:(st'=1\/st'=2)->acc'=acc/\A2s (s.getD k 0)=st':=fun h=>by
    by_cases hc:A2s (s.getD k 0)=3\/A2s (s.getD k 0)=4
    ·have:=(j1 hc).1;omega
    ·exact⟨(j2 hc).2,(j2 hc).1.symm⟩
   have hrt:A6v s (k+1)=B9W (s.getD k 0) k (st,acc):=by rw[A6v, <-heq]
   rw[B9W,if_neg h2,if_neg h3]at hrt;repeat' (first|refine A7I (hown:=hown') (hlen:=by have:=(hlen2 (by omega)).1;subst this;omega) (hbase:=by have:=hkept'.size;omega) (k:=?_);intro v3 w3 hown3 hk3 hb3|refine D8 ?_|refine D6 ?_|refine O0 ?_|refine N7 ?_|refine O6 ?_|refine O9 ?_|refine A8u ?_|refine Y0 ?_|refine A0z ?_|(refine O3 (h1:=fun _=>?_) (h0:=fun _=>?_)<;>try first|contradiction|omega)|refine E5 ?_|refine A7 ?_|refine D7 ?_|refine E8 ?_|refine A8 ?_|refine G7 ?_|refine H5 ?_|(refine C9 (ht:=fun _=>?_) (hf:=fun _=>?_)<;>try first|contradiction|omega))
   iterate 2
    ·rename_i hlast
     have h12:st'=1\/st'=2:=by omega
     obtain⟨hae,hcl⟩:=hlen2 h12;have hac':acc'.length<=k:=by rw[hae];exact hacc
     rw[hch]at hown3;rw[if_neg (by omega),if_pos (by omega),hcl]at hrt;dsimp only at hrt;rw[<-hae]at hrt;refine L6 (⟨k+1,st',v3,acc'++ [⟨st',[s.getD k 0],k⟩]⟩:RLoop) (by exact⟨rfl,rfl,rfl,rfl,rfl,trivial⟩) ?_ (by dsimp only;omega)
     refine⟨by dsimp only;omega,by simp;omega,hrt.symm,fun _=>by simp,?_,?_,?_⟩
     ·intro u hu
      rcases Y5.1 hu with h|h
      ·exact Nat.le_succ_of_le (htx u (by rw[<-hae];exact h))
      ·simp at h;subst h;simp
     ·simpa[A2a,X0,Value.cells] using hown3
     ·exact hkept'.step hk3 (fun x hx=> .inr (by
       cases ho:out'.ownBlock with
       |none=>simp[ho]at hx
       |some g=>simp[ho]at hx;subst hx;exact(hown'.lt _ ho).1))
   ·rename_i h5 h6
    have hout:A6v s (k+1)=(st',acc'):=by
     rw[hrt];by_cases hc:A2s (s.getD k 0)=3\/A2s (s.getD k 0)=4
     ·obtain⟨rfl,rfl⟩:=j1 hc
      rw[if_neg (by omega),if_neg (by omega)]
     ·obtain⟨rfl,rfl⟩:=j2 hc
      have hle:A2s (s.getD k 0)=0\/A2s (s.getD k 0)=9:=by
       have:∀c,A2s c=0\/A2s c=9\/A2s c=1\/A2s c=2\/A2s c=3\/A2s c=4:=fun c=>by
        unfold A2s;repeat' split
        all_goals simp
       have:=this (s.getD k 0);omega
      rw[if_pos hle]
    refine L6 (⟨k+1,st',out',acc'⟩:RLoop) (by exact⟨rfl,rfl,rfl,rfl,rfl,trivial⟩) ?_ (by dsimp only;omega)
    refine⟨by dsimp only;omega,hlen,hout.symm,fun h=>by dsimp only at h;omega,?_,hown',hkept'⟩
    intro u hu;by_cases hc:A2s (s.getD k 0)=3\/A2s (s.getD k 0)=4
    ·rw[(j1 hc).2]at hu
     rcases Y5.1 hu with h|h
     ·exact Nat.le_succ_of_le (htx u h)
     ·simp at h;subst h;simp
    ·rw[(j2 hc).2]at hu
     exact Nat.le_succ_of_le (htx u hu)
 ·have hk':k=s.length:=by omega
  subst hk';have:B2M s=acc:=by rw[B2M, <-heq]
  rw[this];exact⟨hown,hkept⟩
end Go.Proofs
namespace Go.Proofs
open Go.Proofs.Tryz
open Go.Sp
open Go.Shelf
def Tryz.lays189_ren:Go.Shelf.Ren:=⟨fun|189=>85|125=>119|257=>118|128=>151|129=>152|294=>142|295=>143|296=>144|297=>145|298=>146|299=>147|216=>148|300=>149|301=>150|328=>180|329=>181|330=>182|331=>183|332=>184|215=>185|343=>200|n=>n,fun|28=>35|3=>3|46=>216|0=>0|51=>248|53=>250|4=>4|183=>242|182=>241|131=>51|5=>5|9=>9|218=>273|222=>45|228=>285|229=>231|n=>n,fun|n=>n⟩
theorem Tryz.lays189:Go.Proofs.Lays.n189 prog Tryz.lays189_ren:= {
 mixed:=by kernel_rfl
 f125:=func119.trans (congrArg some (by kernel_rfl))
 f128:=func151.trans (congrArg some (by kernel_rfl))
 f129:=func152.trans (congrArg some (by kernel_rfl))
 f189:=func85.trans (congrArg some (by kernel_rfl))
 f215:=func185.trans (congrArg some (by kernel_rfl))
 f216:=func148.trans (congrArg some (by kernel_rfl))
 f257:=func118.trans (congrArg some (by kernel_rfl))
 f294:=func142.trans (congrArg some (by kernel_rfl))
 f295:=func143.trans (congrArg some (by kernel_rfl))
 f296:=func144.trans (congrArg some (by kernel_rfl))
 f297:=func145.trans (congrArg some (by kernel_rfl))
 f298:=func146.trans (congrArg some (by kernel_rfl))
 f299:=func147.trans (congrArg some (by kernel_rfl))
 f300:=func149.trans (congrArg some (by kernel_rfl))
 f301:=func150.trans (congrArg some (by kernel_rfl))
 f328:=func180.trans (congrArg some (by kernel_rfl))
 f329:=func181.trans (congrArg some (by kernel_rfl))
 f330:=func182.trans (congrArg some (by kernel_rfl))
 f331:=func183.trans (congrArg some (by kernel_rfl))
 f332:=func184.trans (congrArg some (by kernel_rfl))
 f343:=func200.trans (congrArg some (by kernel_rfl))
 t0:=underlying0
 a0:=isAgg0
 z0:=sizeOf0
 v0:=zeroValue0
 t3:=underlying3
 a3:=isAgg3
 z3:=sizeOf3
 v3:=zeroValue3
 t4:=underlying4
 a4:=isAgg4
 z4:=sizeOf4
 v4:=zeroValue4
 t5:=underlying5
 a5:=isAgg5
 z5:=sizeOf5
 v5:=zeroValue5
 t9:=underlying9
 a9:=isAgg9
 z9:=sizeOf9
 v9:=zeroValue9
 t28:=underlying35
 a28:=isAgg35
 z28:=sizeOf35
 v28:=zeroValue35
 t46:=underlying216
 a46:=isAgg216
 z46:=sizeOf216
 v46:=zeroValue216
 t51:=underlying248
 a51:=isAgg248
 z51:=sizeOf248
 v51:=zeroValue248
 t53:=underlying250
 a53:=isAgg250
 z53:=sizeOf250
 v53:=zeroValue250
 t131:=underlying51
 a131:=isAgg51
 z131:=sizeOf51
 v131:=zeroValue51
 t182:=underlying241
 a182:=isAgg241
 z182:=sizeOf241
 v182:=zeroValue241
 t183:=underlying242
 a183:=isAgg242
 z183:=sizeOf242
 v183:=zeroValue242
 t218:=underlying273
 a218:=isAgg273
 z218:=sizeOf273
 v218:=zeroValue273
 t222:=underlying45
 a222:=isAgg45
 z222:=sizeOf45
 v222:=zeroValue45
 t228:=underlying285
 a228:=isAgg285
 z228:=sizeOf285
 v228:=zeroValue285
 t229:=underlying231
 a229:=isAgg231
 z229:=sizeOf231
 v229:=zeroValue231}
open Go.Sort Go.RowKit in
theorem Tryz.slices_Sort_int (blk off cap:Nat) (zs:List Int) (w:World) (hH:Holds (Value.int .i64) w blk off zs.toArray) (hblk:blk<w.heap.size) (hsz:zs.length<4611686018427387904):
  Calls prog 85 #[.slice (some ⟨blk,off,none⟩) zs.length cap] w fun e w'=>
   e=.returned (.tuple #[])/\∃n os,w'=grow (putRow (Value.int .i64) (Sort.ahead w n) blk off (zs.mergeSort fun x y=>decide (x<=y)).toArray) os:=Any.slices_Sort_int Tryz.lays189 blk off cap zs w hH hblk hsz
def Tryz.laysNm220_ren:Go.Shelf.Ren:=⟨fun|20=>86|n=>n,fun|22=>35|3=>3|4=>4|0=>0|n=>n,fun|n=>n⟩
theorem Tryz.laysNm220:Go.Proofs.Lays2.n20 prog Tryz.laysNm220_ren:= {
 mixed:=by kernel_rfl
 f20:=func86.trans (congrArg some (by kernel_rfl))
 t0:=underlying0
 a0:=isAgg0
 z0:=sizeOf0
 v0:=zeroValue0
 t3:=underlying3
 a3:=isAgg3
 z3:=sizeOf3
 v3:=zeroValue3
 t4:=underlying4
 a4:=isAgg4
 z4:=sizeOf4
 v4:=zeroValue4
 t22:=underlying35
 a22:=isAgg35
 z22:=sizeOf35
 v22:=zeroValue35
 i3:=by kernel_rfl}
open Go.RowKit Go.Lib Go.Sort in
theorem Tryz.slices_Compact_int (blk off cap:Nat) (zs:List Int) (w:World) (hH:Holds (Value.int .i64) w blk off zs.toArray) (hsz:zs.length<=9223372036854775807) (hcap:zs.length<=cap):
  Calls prog 86 #[.slice (some ⟨blk,off,none⟩) zs.length cap] w fun e w'=>e=.returned (.slice (some ⟨blk,off,none⟩) (Lib.compact zs).length cap)/\∃q,w'=putRow (Value.int .i64) (Sort.ahead w q) blk off (Lib.compact zs++List.replicate (zs.length-(Lib.compact zs).length) 0).toArray:=Any.slices_Compact_int Tryz.laysNm220 blk off cap zs w hH hsz hcap
end Go.Proofs
namespace Go.Proofs
open Go.Proofs.Tryz
open Go.Sp
open Go.Fw
theorem D7h (l:List Sp.Us):∀u∈l.flatMap A5y,u.oneCell'=true:=by
 intro u hu;obtain⟨z,_,hz⟩:=A3S.1 hu;simp only[A5y,W9,List.not_mem_nil,or_false]at hz;rcases hz with rfl|rfl|rfl<;>rfl
section
variable {src:List UInt8}{its:List Sp.Itm}{a:Option Addr}{cp:Nat}{xs:List Value}
theorem B7Q (I:P8) (h:FE I its a cp xs) (hlen:src.length<=4000) (hN:∀x∈its,Sp.ItN src x):
  CalM prog 27 #[.agg [.slice a its.length cp].toArray] I [] (fun v I' H'=>H'= []/\∃ua up,v=.slice ua (A2c its).length up/\RowI I' 58 3 (.slice ua (A2c its).length up) (A2c its).length ((A2c its).flatMap A5y)):=by
 refine CalM.of fun w E hm=>enter (N:=20) func27 rfl [(0,.agg [.slice a its.length cp].toArray)] A0Z rfl ?_
 have hfew:=h.few;repeat' (first|refine A0T (d:=1) ?_ hm;clear hm;intro b1 _ hm|refine J6 ?_ hm|refine D8 ?_|refine D6 ?_|refine G6 ?_|refine D5 ?_|refine E5 ?_|refine A7 ?_|refine E8 ?_|refine A8 ?_|refine F6 ?_)
 obtain⟨I2,hle2,hm2,hpf⟩:=hm.freezeO;clear hm;have hm:=hm2;clear hm2;refine U3 (fun x:NX=> [(1,ptr b1),(3,.slice x.ua (A6R its x.k).length x.up),(7,nt its.length),(8,nt x.k)])
  (fun x w'=>Mem E x.I [.row (.slice x.ua (A6R its x.k).length x.up) 58 3 (A6R its x.k).length ((A6R its x.k).flatMap A5y)] w'/\Le I2 x.I/\x.k<=its.length/\(A6R its x.k).length<=x.k *900000000) (fun x=>its.length-x.k) ⟨0,I2,none,0,none,0,none,0⟩
  (by exact⟨rfl,rfl,rfl,rfl,trivial⟩) ⟨hm.nil 58 3,Le.refl _,H9 _,H9 _⟩ ?_
 clear hm;rintro⟨k,I3,_,_,_,_,ua1,up1⟩ w1 ⟨hm,hle3,hk,hn⟩;dsimp only at hm hle3 hk hn |-;have hpf3:=hpf.le hle3;by_cases hlt:k<its.length
 ·have hus:=B58 its k
  have hwn:=B8z hN hlt;have hwl:(A3x its k).us.length<=(A3x its k).n:=by rw[Sp.NW.n];omega
  have hc:=D1A k hlt b1 I3 hpf3 ((h.le hle2).le hle3) hlen hN;generalize A6R its k=us at hm hn hus |-;generalize A3x its k=r at hc hus hwn hwl;repeat' (first|refine F8 (d:=13) ?_ hm (hp:=pm0) (hc:=hc);clear hm;rintro _ I4 _ _ ⟨bc,pi,sc,sa,sp,da,dp,ua,up,rfl,rfl⟩ hleI4 hm;try simp only[G5]at hm;obtain⟨I5,hle5,hm5,hobj⟩:=hm.freezeO;obtain⟨I6,hle6,hm6,husr⟩:=hm5.freeze;clear hm hm5;have hm:=hm6;clear hm6;have hobj6:=hobj.le hle6|refine B9C (d:=17) ?_ hm (hr:=husr) (h1:=D7h _);clear hm;intro a17 cp17 _ hm;try simp only[G5]at hm|refine J9 ?_ hm|refine D8 ?_|refine D6 ?_|refine J8 ?_|refine F5 ?_|refine O9 ?_|refine D5 ?_|refine E5 ?_|refine A7 ?_|refine D7 ?_|refine E8 ?_|refine A8 ?_|refine F6 ?_|refine G7 ?_|(refine C9 (ht:=fun _=>?_) (hf:=fun _=>?_)<;>try first|contradiction|omega))
  refine L6 (⟨k+1,I6,none,0,none,0,a17,cp17⟩:NX) (by exact⟨rfl,by rw[hus,D9];rfl,rfl,rfl,trivial⟩) ⟨?_,(((hle3.trans hleI4).trans hle5).trans hle6),by dsimp only;omega,by dsimp only;rw[hus,D9];omega⟩ (by dsimp only;omega)
  dsimp only
  rw[hus,D9,X0];exact hm.tl.tl
 ·obtain rfl:k=its.length:=by omega
  repeat' (first|refine D8 ?_|refine D6 ?_|refine J8 ?_|refine E5 ?_|refine A7 ?_|refine H6 ?_|refine G9 ?_|refine E8 ?_|refine A8 ?_|refine O8 ?_|refine J3 ?_|refine J7 ?_|(refine C9 (ht:=fun _=>?_) (hf:=fun _=>?_)<;>try first|contradiction|omega))
  obtain⟨I4,hle4,hm4,hrow⟩:=hm.freeze;exact⟨I4,[],⟨rfl,_,_,rfl,hrow⟩,hm4.left (H:= [])⟩
end
def D7i:Option Sp.Us->Value
 |some u=> .tuple #[.agg (A5y u).toArray,.bool true]
 |none=> .tuple #[.agg [.int .i64 0,.int .i64 0,.int .i64 0].toArray,.bool false]
section
variable {src:List UInt8}{its:List Sp.Itm}{a:Option Addr}{cp:Nat}{xs:List Value}
theorem D8G (at_:Int) (I:P8) (h:FE I its a cp xs) (hlen:src.length<=4000) (hN:∀x∈its,Sp.ItN src x) (hfw:(A2c its).length<=100000000000):
  CalM prog 55 #[.agg [.slice a its.length cp].toArray,.int .i64 at_] I [] (fun v _ H'=>v=D7i (B57 (A2c its) at_)/\H'= []):=by
 refine CalM.of fun w E hm=>enter (N:=28) func55 rfl [(0,.agg [.slice a its.length cp].toArray),(1,.int .i64 at_)] A1x rfl ?_
 have hc:=B7Q I h hlen hN;generalize A2c its=us at hc hfw |-;repeat' (first|refine F8 (d:=9) ?_ hm (hp:=pm0) (hc:=hc);clear hm;rintro _ I2 _ _ ⟨rfl,ua,up,rfl,hrow⟩ hleI2 hm;try simp only[G5]at hm|refine A0T (d:=2) ?_ hm;clear hm;intro b2 _ hm|refine X8 (d:=4) ?_ hm;clear hm;intro b4 _ hm|refine Q7 ?_ hm|refine D8 ?_|refine D6 ?_|refine G6 ?_|refine E5 ?_|refine A7 ?_|refine E8 ?_|refine A8 ?_|refine F6 ?_)
 refine U3 (fun k:Nat=> [(1,.int .i64 at_),(4,ptr b4),(9,.slice ua us.length up),(10,nt us.length),(11,nt k)])
  (fun k w'=>Mem E I2 [.cell b4 [.int .i64 0,.int .i64 0,.int .i64 0] 58] w'/\k<=us.length/\B57 us at_=B57 (us.drop k) at_) (fun k=>us.length-k) 0
  (by exact⟨rfl,rfl,rfl,rfl,rfl,trivial⟩) ⟨hm.snd,H9 _,rfl⟩ ?_
 clear hm;rintro k w1 ⟨hm,hk,hf⟩;try dsimp only at hm hk hf |-
 by_cases hlt:k<us.length
 ·have hg:us[k]?=some us[k]:=F9 hlt
  have hd:us.drop k=us[k]::us.drop (k+1):=A3Q hlt;rw[hd]at hf;have hgk:us[((k:Nat):Int).toNat]?=some us[k]:=hg;generalize us[k]=u at hg hf hgk;rw[C6v]at hf;by_cases hu:u.fr<=at_/\at_<u.to
  ·rw[decide_eq_true hu.1,decide_eq_true hu.2]at hf
   repeat' (first|refine Q4 (d:=13) (enc:=A5y) (z:=u) ?_ (hr:=hrow) (he:=fun _=>rfl) (hz:=hgk);intro bt ot hpt|refine Y2 (d:=7) ?_ hm;clear hm;intro b7 _ hm|refine J6 ?_ hm|refine Q7 ?_ hm|refine U0 ?_ hm|refine P6 ?_ hm;clear hm;intro _ hm;try simp only[G5]at hm|refine A00 ?_ hm|refine D8 ?_|refine D6 ?_|refine O0 ?_|refine J8 ?_|refine A82 ?_|refine D5 ?_|(refine O3 (h1:=fun _=>?_) (h0:=fun _=>?_)<;>try first|contradiction|omega)|refine E5 ?_|refine A7 ?_|refine H8 ?_|refine O5 ?_|refine E8 ?_|refine A8 ?_|refine F6 ?_|refine G7 ?_|refine J3 ?_|(refine C9 (ht:=fun _=>?_) (hf:=fun _=>?_)<;>try first|contradiction|omega))
   exact⟨I2,[],⟨by rw[hf];rfl,rfl⟩,hm.left (H:= [])⟩
  ·have hz:(decide (u.fr<=at_) && decide (at_<u.to))=false:=by
    rw[Bool.and_eq_false_iff,decide_eq_false_iff_not,decide_eq_false_iff_not];omega
   rw[hz]at hf;repeat' (first|refine Q4 (d:=13) (enc:=A5y) (z:=u) ?_ (hr:=hrow) (he:=fun _=>rfl) (hz:=hgk);intro bt ot hpt|refine Y2 (d:=7) ?_ hm;clear hm;intro b7 _ hm|refine J6 ?_ hm|refine U0 ?_ hm|refine D8 ?_|refine O0 ?_|refine N7 ?_|refine J8 ?_|refine A82 ?_|refine O9 ?_|refine D5 ?_|refine A0z ?_|(refine O3 (h1:=fun _=>?_) (h0:=fun _=>?_)<;>try first|contradiction|omega)|refine E5 ?_|refine A7 ?_|refine D7 ?_|refine E8 ?_|refine A8 ?_|refine F6 ?_|refine G7 ?_|refine F7 ?_|(refine C9 (ht:=fun _=>?_) (hf:=fun _=>?_)<;>try first|contradiction|omega))
   all_goals exact L6 (k+1:Nat) (by exact⟨rfl,rfl,rfl,rfl,rfl,trivial⟩) ⟨hm.tl,by omega,hf⟩ (by omega)
 ·obtain rfl:k=us.length:=by omega
  rw[A40]at hf;repeat' (first|refine P6 ?_ hm;clear hm;intro _ hm;try simp only[G5]at hm|refine A00 ?_ hm|refine D6 ?_|refine J8 ?_|refine Y0 ?_|refine E5 ?_|refine A7 ?_|refine H6 ?_|refine G9 ?_|refine E8 ?_|refine A8 ?_|refine O8 ?_|refine J3 ?_|(refine C9 (ht:=fun _=>?_) (hf:=fun _=>?_)<;>try first|contradiction|omega))
  exact⟨I2,[],⟨by rw[hf];rfl,rfl⟩,hm.left (H:= [])⟩
end
abbrev A7X (d:Sp.Pl):List Value:= [str d.name,.int .i64 d.at_]
abbrev B74 (l:List Sp.Pl) (a:Option Addr) (cp:Nat):HItem:=.row (.slice a l.length cp) 128 2 l.length (l.flatMap A7X)
abbrev D8u (l:List Sp.Pl):Value->P8->List HItem->Prop:=fun v _ H'=> ∃a cp,v=.slice a l.length cp/\H'= [B74 l a cp]
structure RrX where
 k:Nat
 I:P8
 a:Option Addr
 cp:Nat
theorem D4P (b:Int) (hb0: -1000000<=b) (hb1:b<=1000000):∀(n:Nat) (l:List Sp.Stm),SizeOf.sizeOf l<=n->l.length<=64->A0j l->A0e D7J (Sp.plS 1000000) l->
  ∀(I:P8) (la:Option Addr) (lc:Nat) (ys:List Value) (out:List Sp.Pl) (oa:Option Addr) (oc:Nat),out.length+(A1D b l).length<=1000000000000->RowI I 111 15 (.slice la l.length lc) l.length ys->V4 I l ys->
  CalM prog 84 #[.slice oa out.length oc,.int .i64 b,.slice la l.length lc] I [B74 out oa oc] (D8u (out++A1D b l)):=by
 intro n;induction n with
 |zero=>intro l h;cases l<;>simp at h
 |succ n ih=>
 intro l hsz hll hsm hal I la lc ys out oa oc hol hr hx;refine CalM.of fun w E hm=>enter (N:=60) func84 rfl [(0,.slice oa out.length oc),(1,.int .i64 b),(2,.slice la l.length lc)] A4x rfl ?_
 repeat' (first|refine D8 ?_|refine D6 ?_|refine G6 ?_|refine E5 ?_|refine A7 ?_|refine E8 ?_|refine A8 ?_|refine F6 ?_)
 refine U3 (fun x:RrX=> [(0,.slice x.a (out++A1D b (l.take x.k)).length x.cp),(1,.int .i64 b),(2,.slice la l.length lc),(9,nt l.length),(10,nt x.k)])
  (fun x w'=>Mem E x.I [B74 (out++A1D b (l.take x.k)) x.a x.cp] w'/\Le I x.I/\x.k<=l.length) (fun x=>l.length-x.k) ⟨0,I,oa,oc⟩
  (by exact⟨by rw[Z9,A1D,J4];rfl,rfl,rfl,rfl,rfl,trivial⟩) ⟨by rw[Z9,A1D,J4];exact hm,Le.refl _,H9 _⟩ ?_
 clear hm;rintro⟨k,I1,a1,cp1⟩ w1 ⟨hm,hle1,hk⟩;dsimp only at hm hle1 hk |-;by_cases hlt:k<l.length
 ·have hg:l[k]?=some l[k]:=F9 hlt
  have hst:=C31 b hg;have hcut:(A1D b l).length=(A1D b (l.take (k+1))).length+(A1D b (l.drop (k+1))).length:=by
   rw[<-D9, <-B3R,A23]
  have h1:=A1W hsm hg;have h2:=Sp.Stm.all_node (A60 hal hg);have h3:=A3v (O1 hlt);obtain⟨ea,ec,ex,a1',c1,xs1,a2',c2,xs2,hc,q2,q3,q4,q5,q6,q7⟩:=(hx.get hg).out;generalize l[k]=x at hg hst h1 h2 h3 hc q2 q3 q4 q5 q6 q7;rw[D2E]at hst;have hz:SizeOf.sizeOf x.thn<SizeOf.sizeOf x/\SizeOf.sizeOf x.els<SizeOf.sizeOf x:=by
   cases x
   simp only[Sp.Stm.thn,Sp.Stm.els,Sp.Stm.mk.sizeOf_spec];omega
  have hsx:x.thn.length<=64/\A0j x.thn/\x.els.length<=64/\A0j x.els:=by
   cases x
   rw[Sp.Stm.small]at h1;exact h1.2
  rw[hst,D9,D9,D9]at hcut;have hr1:=hr.le hle1;have hT1:=fun (J:P8) (m:Le I1 J) (o2:List Sp.Pl) (a cp) (ho:o2.length+(A1D b x.thn).length<=1000000000000)=>ih x.thn (by omega) hsx.1 hsx.2.1 h2.2.2.1 J a1' c1 xs1 o2 a cp ho ((q4.le hle1).le m) (V4.le m _ _ (V4.le hle1 _ _ q5))
  have hT2:=fun (J:P8) (m:Le I1 J) (o2:List Sp.Pl) (a cp) (ho:o2.length+(A1D b x.els).length<=1000000000000)=>ih x.els (by omega) hsx.2.2.1 hsx.2.2.2 h2.2.2.2 J a2' c2 xs2 o2 a cp ho ((q6.le hle1).le m) (V4.le m _ _ (V4.le hle1 _ _ q7))
  generalize A1D b x.thn=t1 at hst hcut hT1;generalize A1D b x.els=t2 at hst hcut hT2;have hpl:=h2.1;obtain⟨pre,hpre⟩:∃pre,pre=out++A1D b (l.take k):=⟨_,rfl⟩;have hpn:pre.length=out.length+(A1D b (l.take k)).length:=by rw[hpre,D9]
  rw[<-hpre]at hm |-;by_cases hkn:x.kind=1/\x.name≠ []
  ·rw[if_pos hkn]at hst hcut
   obtain⟨hk1,hnn⟩:=hkn;have ha:=hpl hk1;simp only[E9,List.length_nil]at hcut;have hfin:out++A1D b (l.take (k+1))=pre++ [⟨x.name,b+x.at_⟩]++t1++t2:=by rw[hst,hpre];simp only[J5]
   have hfl:pre.flatMap A7X++ [str x.name,.int .i64 (b+x.at_)]=(pre++ [Sp.Pl.mk x.name (b+x.at_)]).flatMap A7X:=by rw[X0];rfl
   have hp1l:(pre++ [Sp.Pl.mk x.name (b+x.at_)]).length=pre.length+1:=by rw[D9];rfl
   have hC1:=fun (a:Option Addr) (cp:Nat)=>hT1 I1 (Le.refl _) (pre++ [Sp.Pl.mk x.name (b+x.at_)]) a cp (by rw[hp1l];omega)
   simp only[B74,hp1l]at hC1;repeat' (first|refine O7 (d:=15) ?_ (hr:=hr1);intro b0 o0 hp0;rw[show ((k:Int).toNat *15)=k *15 from rfl,hc]at hp0|refine O7 (d:=22) ?_ (hr:=hr1);intro b3 o3 hp3;rw[show ((k:Int).toNat *15)=k *15 from rfl,hc]at hp3|refine A0R (id:=5) (hm.perm pm1_0) 14 16 (h:=?_);clear hm;intro wd hR hm|refine A04 (d:=30) ?_ (hr:=hr1);intro b4 o4 hp4;rw[show ((k:Int).toNat *15)=k *15 from rfl,hc]at hp4|refine A04 (d:=36) ?_ (hr:=hr1);intro b5 o5 hp5;rw[show ((k:Int).toNat *15)=k *15 from rfl,hc]at hp5|refine A0U 6 ?_|refine A0G ?_ hR|refine A3b (d:=42) ?_ hm;clear hm;intro a42 cp42 _ _ hm;replace hm:=hR.back hm;clear hR;try simp only[G5]at hm|refine J9 ?_ hm|refine D8 ?_|refine D6 ?_|refine O0 ?_|refine J8 ?_|refine O6 ?_|refine A0t ?_|refine D5 ?_|(refine O3 (h1:=fun _=>?_) (h0:=fun _=>?_)<;>try first|contradiction|omega)|refine E5 ?_|refine A7 ?_|refine E8 ?_|refine A8 ?_|refine F6 ?_|refine G7 ?_|(refine C9 (ht:=fun _=>?_) (hf:=fun _=>?_)<;>try first|contradiction|omega)|refine A0x ?_|refine B59 ?_|refine N8 ?_|refine A4U ?_|refine A0y ?_)
   have hm:Mem E I1 [.row (.slice a42 (pre.length+1) cp42) 128 2 (pre.length+1) (pre.flatMap A7X++ [str x.name,.int .i64 (b+x.at_)])] _:=hm;rw[hfl]at hm;refine⟨?_⟩
   repeat' (first|refine A0S (id:=6) (hm.perm pm1_0) [0,1,2,3,4,5,6,8,9,10,11,12,13] [7,14] 15 (h:=?_);clear hm;intro wd hR hm|refine A04 (d:=47) ?_ (hr:=hr1);intro b6 o6 hp6;rw[show ((k:Int).toNat *15)=k *15 from rfl,hc]at hp6|refine A04 (d:=54) ?_ (hr:=hr1);intro b7 o7 hp7;rw[show ((k:Int).toNat *15)=k *15 from rfl,hc]at hp7|refine V8 (d:=50) ?_ hm (hp:=pm1_0) (hc:=hC1 a42 cp42);clear hm;rintro _ I2 _ _ ⟨a50,cp50,rfl,rfl⟩ hleI2 hm;try simp only[G5]at hm|refine V8 (d:=57) ?_ hm (hp:=pm1_0) (hc:=hT2 I2 hleI2 (pre++ [Sp.Pl.mk x.name (b+x.at_)]++t1) a50 cp50 (by rw[D9,hp1l];omega));clear hm;rintro _ I3 _ _ ⟨a57,cp57,rfl,rfl⟩ hleI3 hm;try simp only[G5]at hm|refine A0G ?_ hR|refine A0K ?_;replace hm:=hR.back hm;clear hR;try simp only[G5]at hm|refine D8 ?_|refine D6 ?_|refine O9 ?_|refine E5 ?_|refine A7 ?_|refine D7 ?_|refine A8 ?_|refine A0x ?_|refine N8 ?_|refine A0y ?_)
   exact L6 (⟨k+1,I3,a57,cp57⟩:RrX) (by exact⟨by rw[hfin];rfl,rfl,rfl,rfl,rfl,trivial⟩) ⟨by dsimp only;rw[hfin];exact hm,(hle1.trans hleI2).trans hleI3,by dsimp only;omega⟩ (by dsimp only;omega)
  ·rw[if_neg hkn,L9]at hst
   rw[if_neg hkn]at hcut;simp only[List.length_nil]at hcut;have hfin:out++A1D b (l.take (k+1))=pre++t1++t2:=by rw[hst,hpre];simp only[J5]
   repeat' (first|refine O7 (d:=15) ?_ (hr:=hr1);intro b0 o0 hp0;rw[show ((k:Int).toNat *15)=k *15 from rfl,hc]at hp0|refine O7 (d:=22) ?_ (hr:=hr1);intro b3 o3 hp3;rw[show ((k:Int).toNat *15)=k *15 from rfl,hc]at hp3|refine A0S (id:=6) (hm.perm pm1_0) [0,1,2,3,4,5,6,8,9,10,11,12,13] [7,14] 15 (h:=?_);clear hm;intro wd hR hm|refine A04 (d:=47) ?_ (hr:=hr1);intro b6 o6 hp6;rw[show ((k:Int).toNat *15)=k *15 from rfl,hc]at hp6|refine A04 (d:=54) ?_ (hr:=hr1);intro b7 o7 hp7;rw[show ((k:Int).toNat *15)=k *15 from rfl,hc]at hp7|refine V8 (d:=50) ?_ hm (hp:=pm1_0) (hc:=hT1 I1 (Le.refl _) pre a1 cp1 (by omega));clear hm;rintro _ I2 _ _ ⟨a50,cp50,rfl,rfl⟩ hleI2 hm;try simp only[G5]at hm|refine V8 (d:=57) ?_ hm (hp:=pm1_0) (hc:=hT2 I2 hleI2 (pre++t1) a50 cp50 (by rw[D9];omega));clear hm;rintro _ I3 _ _ ⟨a57,cp57,rfl,rfl⟩ hleI3 hm;try simp only[G5]at hm|refine A0G ?_ hR|refine A0K ?_;replace hm:=hR.back hm;clear hR;try simp only[G5]at hm|refine J9 ?_ hm|refine D8 ?_|refine D6 ?_|refine O0 ?_|refine N7 ?_|refine J8 ?_|refine O6 ?_|refine A0t ?_|refine O9 ?_|refine D5 ?_|refine A0z ?_|(refine O3 (h1:=fun _=>?_) (h0:=fun _=>?_)<;>try first|contradiction|omega)|refine E5 ?_|refine A7 ?_|refine D7 ?_|refine E8 ?_|refine A8 ?_|refine F6 ?_|refine G7 ?_|refine U6 ?_|refine F7 ?_|(refine C9 (ht:=fun _=>?_) (hf:=fun _=>?_)<;>try first|contradiction|omega)|refine Y4 ?_|refine A0x ?_|refine N8 ?_|refine A0y ?_)
   all_goals try exact absurd ⟨by omega,by assumption⟩ hkn
   all_goals exact L6 (⟨k+1,I3,a57,cp57⟩:RrX) (by exact⟨by rw[hfin];rfl,rfl,rfl,rfl,rfl,trivial⟩) ⟨by dsimp only;rw[hfin];exact hm,(hle1.trans hleI2).trans hleI3,by dsimp only;omega⟩ (by dsimp only;omega)
 ·obtain rfl:k=l.length:=by omega
  rw[V7]at hm |-;repeat' (first|refine D8 ?_|refine D6 ?_|refine J8 ?_|refine E5 ?_|refine A7 ?_|refine H6 ?_|refine G9 ?_|refine E8 ?_|refine A8 ?_|refine O8 ?_|refine J3 ?_|refine J7 ?_|(refine C9 (ht:=fun _=>?_) (hf:=fun _=>?_)<;>try first|contradiction|omega))
  exact⟨I1,_,⟨a1,cp1,rfl,rfl⟩,hm⟩
structure RrY where
 k:Nat
 I:P8
 a:Option Addr
 cp:Nat
structure RrZ where
 k:Nat
 a:Option Addr
 cp:Nat
theorem D7Z (l:List Sp.Pl) (d:Sp.Pl):l.flatMap A7X++A7X d=(l++ [d]).flatMap A7X:=by rw[X0];simp
theorem C7J {its:List Sp.Itm}{a:Option Addr}{cp:Nat}{xs:List Value}{bf:Nat} (I:P8) (hpf:PtrI I bf 0 25 [.slice a its.length cp]) (h:FE I its a cp xs) (hP:∀it∈its,Sp.ItPl it):
  CalM prog 52 #[ptr bf] I [] (fun v I' H'=>H'= []/\∃ma mp,v=.slice ma (A3g its).length mp/\RowI I' 128 2 (.slice ma (A3g its).length mp) (A3g its).length ((A3g its).flatMap A7X)):=by
 refine CalM.of fun w E hm=>enter (N:=89) func52 rfl [(0,ptr bf)] A0Z rfl ?_
 have hfew:=h.few;have hm:=hm.nil 128 2;repeat' (first|refine J9 ?_ hm|refine D8 ?_|refine D6 ?_|refine G6 ?_|refine F5 ?_|refine D5 ?_|refine E5 ?_|refine A7 ?_|refine E8 ?_|refine A8 ?_|refine F6 ?_)
 refine U3 (fun x:RrY=> [(0,ptr bf),(3,.slice x.a (A3g (its.take x.k)).length x.cp),(12,nt its.length),(13,nt x.k)])
  (fun x w'=>Mem E x.I [B74 (A3g (its.take x.k)) x.a x.cp] w'/\Le I x.I/\x.k<=its.length) (fun x=>its.length-x.k) ⟨0,I,none,0⟩
  (by exact⟨rfl,rfl,rfl,rfl,trivial⟩) ⟨hm,Le.refl _,H9 _⟩ ?_
 clear hm;rintro⟨k,I1,a1,cp1⟩ w1 ⟨hm,hle1,hk⟩;dsimp only at hm hle1 hk |-;have hpf1:=hpf.le hle1;have h1:=h.le hle1;have hri:=h1.row;by_cases hlt:k<its.length
 ·have hg:its[k]?=some its[k]:=F9 hlt
  have hit:=hP _ (O1 hlt);have hst:=C5q hg;have hml:=B2F (its:=its.take k) (fun x hx=>hP x (A7D hx));rw[P9,A1O hk]at hml;obtain⟨cs,hcs,hat,_⟩:=h1.get hg;generalize its[k]=it at hg hit hst hat
  have hil:=C2R hit;rw[C0H]at hst hil;generalize A3g (its.take k)=pre at hm hst hml |-;obtain⟨hat0,hat1⟩:=hit.at_;have hmk:=hit.mark;obtain⟨pa,pc,sa9,sc9,ba,bc9,da9,dc9,xb,rfl,hpar,_,hrb,hbs,_⟩:=hat
  have hps:=hit.small.params;by_cases hb:it.kind=3\/it.name= []
  ·rw[if_pos hb,J4]at hst
   repeat' (first|refine O7 (d:=21) ?_ (hr:=hri);intro bt ot hpt;rw[show ((k:Int).toNat *10)=k *10 from rfl,hcs]at hpt|refine J9 ?_ hm|refine A0f ?_ hm|refine D8 ?_|refine D6 ?_|refine O0 ?_|refine N7 ?_|refine J8 ?_|refine O6 ?_|refine A0g ?_|refine F5 ?_|refine O9 ?_|refine D5 ?_|refine A0z ?_|(refine O3 (h1:=fun _=>?_) (h0:=fun _=>?_)<;>try first|contradiction|omega)|refine E5 ?_|refine A7 ?_|refine H6 ?_|refine G9 ?_|refine E8 ?_|refine A8 ?_|refine F6 ?_|refine G7 ?_|refine O8 ?_|refine U6 ?_|refine H5 ?_|(refine C9 (ht:=fun _=>?_) (hf:=fun _=>?_)<;>try first|contradiction|omega)|refine Y4 ?_|refine Q9 ?_|refine A31 ?_|refine L8 ?_|refine C3H ?_)
   all_goals first
    |exact L6 (⟨k+1,I1,a1,cp1⟩:RrY) (by exact⟨rfl,by rw[hst];rfl,rfl,rfl,trivial⟩) ⟨by dsimp only;rw[hst];exact hm,hle1,by dsimp only;omega⟩ (by dsimp only;omega)
    |(exfalso;rcases hb with hb|hb
      ·omega
      ·contradiction)
  rw[if_neg hb]at hst hil;have hk3:it.kind≠3:=fun e=>hb (.inl e)
  have hnn:it.name≠ []:=fun e=>hb (.inr e)
  rw[E9,D9]at hil;have hL:=fun (J:P8) (m:Le I1 J) (o2:List Sp.Pl) (a cp) (ho:o2.length+(A1D it.at_ it.body).length<=1000000000000)=>D4P it.at_ (by omega) (by omega) _ it.body (H7 _) (by have:=hit.small.body;omega) hit.small.stms hit.body J ba bc9 xb o2 a cp ho (hrb.le m) (V4.le m _ _ hbs)
  generalize A1D it.at_ it.body=tl at hst hil hL;repeat' (first|refine O7 (d:=21) ?_ (hr:=hri);intro bt ot hpt;rw[show ((k:Int).toNat *10)=k *10 from rfl,hcs]at hpt|refine A0R (id:=7) (hm.perm pm1_0) 15 17 (h:=?_);clear hm;intro wd hR hm|refine A0G ?_ hR|refine A3b (d:=50) ?_ hm;clear hm;intro a50 cp50 _ _ hm;replace hm:=hR.back hm;clear hR;try simp only[G5]at hm|refine J9 ?_ hm|refine D8 ?_|refine D6 ?_|refine N7 ?_|refine J8 ?_|refine O6 ?_|refine A0g ?_|refine G6 ?_|refine F5 ?_|refine D5 ?_|(refine O3 (h1:=fun _=>?_) (h0:=fun _=>?_)<;>try first|contradiction|omega)|refine E5 ?_|refine A7 ?_|refine E8 ?_|refine A8 ?_|refine F6 ?_|refine G7 ?_|(refine C9 (ht:=fun _=>?_) (hf:=fun _=>?_)<;>try first|contradiction|omega)|refine A0x ?_|refine U5 ?_|refine B59 ?_|refine N8 ?_|refine A4U ?_|refine A0y ?_)
  have hm:Mem E I1 [.row (.slice a50 (pre.length+1) cp50) 128 2 (pre.length+1) (pre.flatMap A7X++A7X ⟨it.name,it.at_+it.mark⟩)] _:=hm;rw[D7Z]at hm;obtain⟨p1,hp1⟩:∃p1,p1=pre++ [Sp.Pl.mk it.name (it.at_+it.mark)]:=⟨_,rfl⟩;have hp1l:p1.length=pre.length+1:=by rw[hp1,D9];rfl
  rw[<-hp1, <-hp1l]at hm;have hst1:A3g (its.take (k+1))=p1++it.params.flatMap (A7v it.at_)++tl:=by rw[hst,hp1];simp only[J5,Q8,L9]
  have hz0:(p1++(it.params.take 0).flatMap (A7v it.at_)).length=pre.length+1:=by rw[Z9,A9t,J4,hp1l]
  refine U3 (fun x:RrZ=> [(0,ptr bf),(3,.slice x.a (p1++(it.params.take x.k).flatMap (A7v it.at_)).length x.cp),(5,.pointer (some ⟨bt,ot,none⟩)),(12,nt its.length),(13,nt k),(54,.slice pa it.params.length pc),(55,nt it.params.length),(56,nt x.k)])
   (fun x w'=>Mem E I1 [B74 (p1++(it.params.take x.k).flatMap (A7v it.at_)) x.a x.cp] w'/\x.k<=it.params.length) (fun x=>it.params.length-x.k) ⟨0,a50,cp50⟩
   (by exact⟨rfl,by show some (Value.slice a50 (pre.length+1) cp50)=some (Value.slice a50 (p1++(it.params.take 0).flatMap (A7v it.at_)).length cp50);rw[hz0],rfl,rfl,rfl,rfl,rfl,rfl,trivial⟩) ⟨by rw[Z9,A9t,J4];exact hm,H9 _⟩ ?_
  clear hm;rintro⟨q,a2,cp2⟩ w2 ⟨hm,hq⟩;dsimp only at hm hq |-;have hql:=A8r it.at_ (it.params.take q);rw[P9,A1O hq]at hql;by_cases hlq:q<it.params.length
  ·have hgq:it.params[q]?=some it.params[q]:=F9 hlq
   have hpa:=hit.params _ (O1 hlq);have htk:(it.params.take (q+1)).flatMap (A7v it.at_)=(it.params.take q).flatMap (A7v it.at_)++A7v it.at_ it.params[q]:=by rw[U2 hgq,X0];simp
   generalize it.params[q]=p at hgq hpa htk;rw[A7v]at htk;generalize (it.params.take q).flatMap (A7v it.at_)=pq at hm htk hql |-;have hpl2:(p1++pq).length=p1.length+pq.length:=D9;by_cases hpn:p.name≠ []
   ·rw[if_pos hpn]at htk
    repeat' (first|refine Q4 (d:=58) (enc:=A2L) (z:=p) ?_ (hr:=hpar) (he:=fun _=>rfl) (hz:=by exact hgq);intro bz oz hpz|refine A0R (id:=12) (hm.perm pm1_1) 11 13 (h:=?_);clear hm;intro wd hR hm|refine A0k ?_ hR|refine A0G ?_ hR|refine A3b (d:=75) ?_ hm;clear hm;intro a75 cp75 _ _ hm;replace hm:=hR.back hm;clear hR;try simp only[G5]at hm|refine Y2 (d:=7) ?_ hm;clear hm;intro b7 _ hm|refine J6 ?_ hm|refine U0 ?_ hm|refine D8 ?_|refine D6 ?_|refine J8 ?_|refine A0t ?_|refine O9 ?_|refine D5 ?_|refine E5 ?_|refine A7 ?_|refine D7 ?_|refine E8 ?_|refine A8 ?_|refine F6 ?_|refine G7 ?_|(refine C9 (ht:=fun _=>?_) (hf:=fun _=>?_)<;>try first|contradiction|omega)|refine A0x ?_|refine U5 ?_|refine B59 ?_|refine N8 ?_|refine A4U ?_|refine A0y ?_)
    have hm:Mem E I1 [.row (.slice a75 ((p1++pq).length+1) cp75) 128 2 ((p1++pq).length+1) ((p1++pq).flatMap A7X++A7X ⟨p.name,it.at_+p.at_⟩)] _:=hm.hd;rw[D7Z]at hm;have e1:(p1++pq++ [Sp.Pl.mk p.name (it.at_+p.at_)]).length=(p1++pq).length+1:=by rw[D9];rfl
    refine L6 (⟨q+1,a75,cp75⟩:RrZ) (by exact⟨rfl,by show some (Value.slice a75 ((p1++pq).length+1) cp75)=some (Value.slice a75 (p1++(it.params.take (q+1)).flatMap (A7v it.at_)).length cp75);rw[htk, <-J5,e1],rfl,rfl,rfl,rfl,rfl,rfl,trivial⟩) ⟨by dsimp only;rw[htk, <-J5];unfold B74;rw[e1];exact hm,by dsimp only;omega⟩ (by dsimp only;omega)
   ·rw[if_neg hpn,J4]at htk
    repeat' (first|refine Q4 (d:=58) (enc:=A2L) (z:=p) ?_ (hr:=hpar) (he:=fun _=>rfl) (hz:=by exact hgq);intro bz oz hpz|refine Y2 (d:=7) ?_ hm;clear hm;intro b7 _ hm|refine J6 ?_ hm|refine U0 ?_ hm|refine D8 ?_|refine J8 ?_|refine A0t ?_|refine O9 ?_|refine D5 ?_|refine E5 ?_|refine A7 ?_|refine D7 ?_|refine E8 ?_|refine A8 ?_|refine F6 ?_|refine G7 ?_|(refine C9 (ht:=fun _=>?_) (hf:=fun _=>?_)<;>try first|contradiction|omega))
    exact L6 (⟨q+1,a2,cp2⟩:RrZ) (by exact⟨rfl,by rw[htk];rfl,rfl,rfl,rfl,rfl,rfl,rfl,trivial⟩) ⟨by dsimp only;rw[htk];exact hm.tl,by dsimp only;omega⟩ (by dsimp only;omega)
  obtain rfl:q=it.params.length:=by omega
  rw[V7]at hm |-;obtain⟨p2,hp2⟩:∃p2,p2=p1++it.params.flatMap (A7v it.at_):=⟨_,rfl⟩;have hp2l:p2.length<=pre.length+1+it.params.length:=by
   have:=A8r it.at_ it.params;rw[hp2,D9,hp1l];omega
  rw[<-hp2]at hm hst1 |-;repeat' (first|refine A0S (id:=14) (hm.perm pm1_0) [0,1,2,3,4,5,6,7,8] [9] 10 (h:=?_);clear hm;intro wd hR hm|refine V8 (d:=86) ?_ hm (hp:=pm1_0) (hc:=hL I1 (Le.refl _) p2 a2 cp2 (by omega));clear hm;rintro _ I2 _ _ ⟨a86,cp86,rfl,rfl⟩ hleI2 hm;try simp only[G5]at hm|refine A0G ?_ hR|refine A0K ?_;replace hm:=hR.back hm;clear hR;try simp only[G5]at hm|refine D8 ?_|refine D6 ?_|refine J8 ?_|refine O9 ?_|refine E5 ?_|refine A7 ?_|refine H6 ?_|refine D7 ?_|refine G9 ?_|refine E8 ?_|refine A8 ?_|refine O8 ?_|(refine C9 (ht:=fun _=>?_) (hf:=fun _=>?_)<;>try first|contradiction|omega)|refine A0x ?_|refine U5 ?_|refine N8 ?_|refine A0y ?_)
  exact L6 (⟨k+1,I2,a86,cp86⟩:RrY) (by exact⟨rfl,by rw[hst1];rfl,rfl,rfl,trivial⟩) ⟨by dsimp only;rw[hst1];exact hm,hle1.trans hleI2,by dsimp only;omega⟩ (by dsimp only;omega)
 ·obtain rfl:k=its.length:=by omega
  rw[V7]at hm |-;repeat' (first|refine D8 ?_|refine D6 ?_|refine J8 ?_|refine E5 ?_|refine A7 ?_|refine H6 ?_|refine G9 ?_|refine E8 ?_|refine A8 ?_|refine O8 ?_|refine J3 ?_|refine J7 ?_|(refine C9 (ht:=fun _=>?_) (hf:=fun _=>?_)<;>try first|contradiction|omega))
  obtain⟨I7,hle7,hm7,hrow⟩:=hm.freeze;exact⟨I7,[],⟨rfl,_,_,rfl,hrow⟩,hm7⟩
abbrev B3E (z:Int):List Value:= [.int .i64 z]
theorem B4h (l:List Int):l.flatMap B3E=l.map (Value.int .i64):=B1Z _ _
abbrev B3I (l:List Int) (a:Option Addr) (cp:Nat):HItem:=.row (.slice a l.length cp) 3 1 l.length (l.flatMap B3E)
theorem B69 (l:List Int):(Lib.compact l).length<=l.length:=by
 have h:∀m,(Lib.compactUpTo l.toArray m).length<=m:=by
  intro m;induction m with
  |zero=>simp[Lib.compactUpTo]
  |succ m ih=>
   rw[Lib.compactUpTo_succ,D9];split
   ·simp only[E9,List.length_nil];omega
   ·simp only[List.length_nil];omega
 have:=h l.length;simpa[Lib.compact] using this
theorem D4a {I:P8}{l:List Int}{a:Option Addr}{cp:Nat} (h0:l≠ []) (hn:l.length<=1000000000000):
  CalM prog 85 #[.slice a l.length cp] I [B3I l a cp] (fun v _ H'=>v=.tuple #[]/\H'= [.row (.slice a l.length cp) 3 1 l.length ((l.mergeSort fun x y=>decide (x<=y)).flatMap B3E)]):=by
 refine CalM.of fun w E hm=>?_
 have ho:w.ownsRow 0 3 1 (.slice a l.length cp) l.length (l.flatMap B3E):=hm.ok _ O4;rw[B4h]at ho;rcases ho.2 with ⟨hv,hz⟩|⟨g,cap,cur,hv,_,hg,hc,hcm,hsz,ht⟩
 ·exact absurd (A05 hz) h0
 ·injection hv with e1 e2 e3
  subst e1;subst e3;rw[A4e]at ht;have hgl:=(B0c.1 hg).1;refine⟨Calls.mono (Tryz.slices_Sort_int g 0 cp l w (holds_of_blockI hg ht) hgl (by omega)) (fun e w' q=>?_)⟩
  obtain⟨rfl,n,os,rfl⟩:=q;have hl:(l.mergeSort fun x y=>decide (x<=y)).length=l.length:=List.length_mergeSort l;have hr:=ownsRow_sortedI (n:=n) (os:=os) hl (H9 g) hg hc hcm hsz;rw[<-B4h]at hr;exact⟨I,_,⟨rfl,rfl⟩,hm.turn (i:=0) rfl (Kept.of_grown (grownBy_sortedI _)) hr (.inl rfl)⟩
theorem C5p {I:P8}{l:List Int}{a:Option Addr}{cp:Nat} (h0:l≠ []) (hn:l.length<=1000000000000):
  CalM prog 86 #[.slice a l.length cp] I [B3I l a cp] (fun v _ H'=> ∃b,v=.slice b (Lib.compact l).length cp/\H'= [B3I (Lib.compact l) b cp]):=by
 refine CalM.of fun w E hm=>?_
 have ho:w.ownsRow 0 3 1 (.slice a l.length cp) l.length (l.flatMap B3E):=hm.ok _ O4;rw[B4h]at ho;rcases ho.2 with ⟨hv,hz⟩|⟨g,cap,cur,hv,_,hg,hc,hcm,hsz,ht⟩
 ·exact absurd (A05 hz) h0
 ·injection hv with e1 e2 e3
  subst e1;subst e3;rw[A4e]at ht;have hle:=B69 l;refine⟨Calls.mono (Tryz.slices_Compact_int g 0 cp l w (holds_of_blockI hg ht) (by omega) hc) (fun e w' q=>?_)⟩
  obtain⟨rfl,n,rfl⟩:=q;obtain⟨ts,hts⟩:∃ts,ts=Lib.compact l++List.replicate (l.length-(Lib.compact l).length) (0:Int):=⟨_,rfl⟩;rw[<-hts];have htl:ts.length=l.length:=by rw[hts,D9,List.length_replicate];omega
  have hh:(Go.Sort.putRow (Value.int .i64) (Sort.ahead w n) g 0 ts.toArray).heap[g]?=some (.cells (Go.Sort.putCells (Value.int .i64) 0 ts.toArray cur) 3 (0,0)):=by
   simp[Go.Sort.putRow,Go.Sort.mapBlock,Sort.ahead,A4o,hg,Go.Sort.onCells]
  have hk:Kept [g] w (Go.Sort.putRow (Value.int .i64) (Sort.ahead w n) g 0 ts.toArray):=⟨rfl,rfl,rfl,by simp[Go.Sort.putRow,Go.Sort.mapBlock,Sort.ahead],fun k _ hk=>by
   have:g≠k:=fun e=>hk (by rw[e];simp)
   simp[Go.Sort.putRow,Go.Sort.mapBlock,Sort.ahead,A4o,this]⟩
  have htk:(Go.Sort.putCells (Value.int .i64) 0 ts.toArray cur).toList.take (Lib.compact l).length=(Lib.compact l).map (Value.int .i64):=by
   have h1:=take_putCellsI cur ts (by omega);have h2:=congrArg (List.take (Lib.compact l).length) h1;rw[A41,A1O (by omega)]at h2;rw[h2,hts,V5,A26 (by simp),A0W (by simp)]
  have hr:(Go.Sort.putRow (Value.int .i64) (Sort.ahead w n) g 0 ts.toArray).ownsRow 0 3 1 (.slice (some ⟨g,0,none⟩) (Lib.compact l).length cp) (Lib.compact l).length ((Lib.compact l).flatMap B3E):=by
   rw[B4h];exact⟨by simp,.inr ⟨g,cp,_,rfl,H9 _,hh,by omega,hcm,by simp[Go.Sort.putCells,hsz],by rw[A4e];exact htk⟩⟩
  exact⟨I,_,⟨_,rfl,rfl⟩,hm.turn (i:=0) rfl hk hr (.inl rfl)⟩
structure RrP where
 k:Nat
 a:Option Addr
 cp:Nat
theorem D8C (l:List Int) (d:Int):l.flatMap B3E++ [.int .i64 d]=(l++ [d]).flatMap B3E:=by rw[X0];simp
theorem C9r {src:List UInt8}{its:List Sp.Itm}{a:Option Addr}{cp:Nat}{xs:List Value}{bf:Nat} (df:Int) (I:P8) (hpf:PtrI I bf 0 25 [.slice a its.length cp]) (h:FE I its a cp xs) (hlen:src.length<=4000) (hN:∀x∈its,Sp.ItN src x) (hfw:(A2c its).length<=100000000000):
  CalM prog 53 #[ptr bf,.int .i64 df] I [] (fun v I' H'=>H'= []/\∃ma mp,v=.slice ma (A2d its df).length mp/\RowI I' 3 1 (.slice ma (A2d its df).length mp) (A2d its df).length ((A2d its df).flatMap B3E)):=by
 refine CalM.of fun w E hm=>enter (N:=33) func53 rfl [(0,ptr bf),(1,.int .i64 df)] A1x rfl ?_
 have hc:=B7Q I h hlen hN;rw[A2d];generalize A2c its=us at hc hfw |-;repeat' (first|refine A5O (d:=9) ?_ hm;clear hm;intro b9 _ hm|refine F8 (d:=13) ?_ hm (hp:=pm0) (hc:=hc);clear hm;rintro _ I2 _ _ ⟨rfl,ua,up,rfl,hrow⟩ hleI2 hm;try simp only[G5]at hm|refine U0 ?_ hm|refine D8 ?_|refine D6 ?_|refine G6 ?_|refine F5 ?_|refine E5 ?_|refine A7 ?_|refine E8 ?_|refine A8 ?_|refine F6 ?_)
 have hm:Mem E I2 [B3I (df::A4z (us.take 0) df) (some ⟨b9,0,none⟩) 1] _:=hm;refine U3 (fun x:RrP=> [(0,ptr bf),(1,.int .i64 df),(5,.slice x.a (df::A4z (us.take x.k) df).length x.cp),(13,.slice ua us.length up),(14,nt us.length),(15,nt x.k)])
  (fun x w'=>Mem E I2 [B3I (df::A4z (us.take x.k) df) x.a x.cp] w'/\x.k<=us.length) (fun x=>us.length-x.k) ⟨0,some ⟨b9,0,none⟩,1⟩
  (by exact⟨rfl,rfl,rfl,rfl,rfl,rfl,trivial⟩) ⟨hm,H9 _⟩ ?_
 clear hm;rintro⟨k,a1,cp1⟩ w1 ⟨hm,hk⟩;dsimp only at hm hk |-;by_cases hlt:k<us.length
 ·have hg:us[k]?=some us[k]:=F9 hlt
  have hst:=B7y hg df;have hgk:us[((k:Nat):Int).toNat]?=some us[k]:=hg;have hln:(A4z (us.take k) df).length<=k:=by
   have h1:=A4p (fun u:Sp.Us=>decide (u.df=df)) (us.take k);rw[P9]at h1;rw[A4z,P7];omega
  generalize us[k]=u at hg hst hgk;generalize hpre:df::A4z (us.take k) df=pre at hm |-;have hpl:pre.length=(A4z (us.take k) df).length+1:=by rw[<-hpre];rfl
  by_cases hu:u.df=df
  ·rw[if_pos hu]at hst
   have hn2:df::A4z (us.take (k+1)) df=pre++ [u.fr]:=by rw[hst, <-hpre];rfl
   repeat' (first|refine Q4 (d:=17) (enc:=A5y) (z:=u) ?_ (hr:=hrow) (he:=fun _=>rfl) (hz:=hgk);intro bt ot hpt|refine Y2 (d:=7) ?_ hm;clear hm;intro b7 _ hm|refine A2P (d:=27) ?_ hm;clear hm;intro a27 cp27 _ _ hm;try simp only[G5]at hm|refine J6 ?_ hm|refine U0 ?_ hm|refine D8 ?_|refine D6 ?_|refine J8 ?_|refine O6 ?_|refine O9 ?_|refine D5 ?_|refine E5 ?_|refine A7 ?_|refine D7 ?_|refine E8 ?_|refine A8 ?_|refine F6 ?_|refine G7 ?_|(refine C9 (ht:=fun _=>?_) (hf:=fun _=>?_)<;>try first|contradiction|omega))
   have hm:Mem E I2 [.row (.slice a27 (pre.length+1) cp27) 3 1 (pre.length+1) (pre.flatMap B3E++ [.int .i64 u.fr])] _:=hm.tl;rw[D8C]at hm;have e1:(pre++ [u.fr]).length=pre.length+1:=D9;exact L6 (⟨k+1,a27,cp27⟩:RrP) (by exact⟨rfl,rfl,by rw[hn2,e1];rfl,rfl,rfl,rfl,trivial⟩) ⟨by dsimp only;rw[hn2];unfold B3I;rw[e1];exact hm,by dsimp only;omega⟩ (by dsimp only;omega)
  ·rw[if_neg hu,J4]at hst
   repeat' (first|refine Q4 (d:=17) (enc:=A5y) (z:=u) ?_ (hr:=hrow) (he:=fun _=>rfl) (hz:=hgk);intro bt ot hpt|refine Y2 (d:=7) ?_ hm;clear hm;intro b7 _ hm|refine J6 ?_ hm|refine U0 ?_ hm|refine D8 ?_|refine J8 ?_|refine O6 ?_|refine O9 ?_|refine D5 ?_|refine E5 ?_|refine A7 ?_|refine D7 ?_|refine E8 ?_|refine A8 ?_|refine F6 ?_|refine G7 ?_|(refine C9 (ht:=fun _=>?_) (hf:=fun _=>?_)<;>try first|contradiction|omega))
   all_goals exact L6 (⟨k+1,a1,cp1⟩:RrP) (by exact⟨rfl,rfl,by rw[hst,hpre];rfl,rfl,rfl,rfl,trivial⟩) ⟨by dsimp only;rw[hst,hpre];exact hm.tl,by dsimp only;omega⟩ (by dsimp only;omega)
 ·obtain rfl:k=us.length:=by omega
  rw[V7]at hm |-;generalize hl:df::A4z us df=l at hm |-;have hl0:l≠ []:=by rw[<-hl];simp
  have hll:l.length<=1000000000000:=by
   have h1:=A4p (fun u:Sp.Us=>decide (u.df=df)) us;rw[<-hl,E9,A4z,P7];omega
  have hS:=D4a (I:=I2) (a:=a1) (cp:=cp1) hl0 hll;have hsl:(l.mergeSort fun x y=>decide (x<=y)).length=l.length:=List.length_mergeSort l;generalize (l.mergeSort fun x y=>decide (x<=y))=m at hS hsl |-;have hC:=fun (I:P8)=>C5p (I:=I) (l:=m) (a:=a1) (cp:=cp1) (fun e=>hl0 (A05 (by rw[<-hsl,e];rfl))) (by omega)
  simp only[B3I,hsl]at hC;repeat' (first|refine F8 (d:=30) ?_ hm (hp:=pm1_0) (hc:=hS);clear hm;rintro _ I3 _ _ ⟨rfl,rfl⟩ hleI3 hm;try simp only[G5]at hm|refine F8 (d:=32) ?_ hm (hp:=pm1_0) (hc:=hC I3);clear hm;rintro _ I4 _ _ ⟨b32,rfl,rfl⟩ hleI4 hm;try simp only[G5]at hm|refine D8 ?_|refine D6 ?_|refine J8 ?_|refine E5 ?_|refine A7 ?_|refine H6 ?_|refine G9 ?_|refine E8 ?_|refine A8 ?_|refine O8 ?_|refine J3 ?_|refine J7 ?_|(refine C9 (ht:=fun _=>?_) (hf:=fun _=>?_)<;>try first|contradiction|omega))
  obtain⟨I7,hle7,hm7,hrow7⟩:=hm.freeze;exact⟨I7,[],⟨rfl,_,_,rfl,hrow7⟩,hm7⟩
def C8k:Option Int->Value
 |some d=> .tuple #[.int .i64 d,.bool true]
 |none=> .tuple #[.int .i64 0,.bool false]
section
variable {src:List UInt8}{its:List Sp.Itm}{a:Option Addr}{cp:Nat}{xs:List Value}
theorem C51 (at_:Int) (I:P8) (h:FE I its a cp xs) (hlen:src.length<=4000) (hN:∀x∈its,Sp.ItN src x) (hfw:(A2c its).length<=100000000000):
  CalM prog 25 #[.agg [.slice a its.length cp].toArray,.int .i64 at_] I [] (fun v _ H'=>v=C8k (B42 its at_)/\H'= []):=by
 refine CalM.of fun w E hm=>enter (N:=42) func25 rfl [(0,.agg [.slice a its.length cp].toArray),(1,.int .i64 at_)] A1x rfl ?_
 have hA:=fun (J:P8) (m:Le I J)=>D8G at_ J (h.le m) hlen hN hfw
 have hM:=fun (J:P8) (m:Le I J) (bf:Nat) (hp:PtrI J bf 0 25 [.slice a its.length cp])=>C7J J hp (h.le m) (fun x hx=>Sp.ItN.pl hlen (hN x hx))
 have hin:=D4b hN hlen;have hfew:=B2F (fun x hx=>Sp.ItN.pl hlen (hN x hx));have hif:=h.few;rw[B42];generalize A3g its=md at hM hin hfew |-;repeat' (first|refine A0T (d:=2) ?_ hm;clear hm;intro b2 _ hm|refine Q7 ?_ hm|refine D8 ?_|refine D6 ?_|refine E5 ?_|refine A7 ?_|refine E8 ?_|refine A8 ?_)
 obtain⟨I1,hle1,hm1,hpf⟩:=hm.freezeO;clear hm;have hm:=hm1;clear hm1;cases hu:B57 (A2c its) at_ with
 |some u=>
  rw[hu]at hA;repeat' (first|refine F8 (d:=13) ?_ hm (hp:=pm0) (hc:=hA I1 hle1);clear hm;rintro _ I2 _ _ ⟨rfl,rfl⟩ hleI2 hm;simp only[D7i];try simp only[G5]at hm|refine Y2 (d:=6) ?_ hm;clear hm;intro b6 _ hm|refine J6 ?_ hm|refine D8 ?_|refine D6 ?_|refine Y8 ?_|refine D5 ?_|refine E5 ?_|refine A7 ?_|refine H8 ?_|refine E8 ?_|refine A8 ?_|refine J3 ?_|refine A4E ?_|refine H5 ?_)
  exact⟨I2,[],⟨rfl,rfl⟩,hm.left (H:= [])⟩
 |none=>
  rw[hu]at hA;dsimp only
  repeat' (first|refine F8 (d:=13) ?_ hm (hp:=pm0) (hc:=hA I1 hle1);clear hm;rintro _ I2 _ _ ⟨rfl,rfl⟩ hleI2 hm;simp only[D7i];try simp only[G5]at hm|refine F8 (d:=19) ?_ hm (hp:=pm0) (hc:=hM I2 (hle1.trans hleI2) _ (hpf.le hleI2));clear hm;rintro _ I3 _ _ ⟨rfl,ma,mp,rfl,hrow⟩ hleI3 hm;try simp only[G5]at hm|refine Y2 (d:=6) ?_ hm;clear hm;intro b6 _ hm|refine D8 ?_|refine D6 ?_|refine G6 ?_|refine Y8 ?_|refine E5 ?_|refine A7 ?_|refine E8 ?_|refine A8 ?_|refine F6 ?_|refine G7 ?_|refine F7 ?_)
  replace hm:=hm.left (H:= []);refine U3 (fun k:Nat=> [(1,.int .i64 at_),(19,.slice ma md.length mp),(20,nt md.length),(21,nt k)])
   (fun k w'=>Mem E I3 [] w'/\k<=md.length/\C3G md at_=C3G (md.drop k) at_) (fun k=>md.length-k) 0
   (by exact⟨rfl,rfl,rfl,rfl,trivial⟩) ⟨hm,H9 _,rfl⟩ ?_
  clear hm;rintro k w1 ⟨hm,hk,hf⟩;try dsimp only at hm hk hf |-
  by_cases hlt:k<md.length
  ·have hg:md[k]?=some md[k]:=F9 hlt
   have hd:md.drop k=md[k]::md.drop (k+1):=A3Q hlt;rw[hd]at hf;have hgk:md[((k:Nat):Int).toNat]?=some md[k]:=hg;have hi:=hin _ (O1 hlt);generalize md[k]=d at hg hf hgk hi;rw[C9i]at hf;by_cases hd1:d.at_<=at_
   ·by_cases hd2:at_<d.at_+d.name.length
    ·rw[decide_eq_true hd1,decide_eq_true hd2]at hf
     repeat' (first|refine Q4 (d:=23) (enc:=A7X) (z:=d) ?_ (hr:=hrow) (he:=fun _=>rfl) (hz:=hgk);intro bt ot hpt|refine Y2 (d:=9) ?_ hm;clear hm;intro b9 _ hm|refine J6 ?_ hm|refine U0 ?_ hm|refine D8 ?_|refine D6 ?_|refine O0 ?_|refine J8 ?_|refine A82 ?_|refine A0m ?_|refine O9 ?_|refine D5 ?_|(refine O3 (h1:=fun _=>?_) (h0:=fun _=>?_)<;>try first|contradiction|omega)|refine E5 ?_|refine A7 ?_|refine H8 ?_|refine O5 ?_|refine E8 ?_|refine A8 ?_|refine F6 ?_|refine G7 ?_|refine J3 ?_|refine A4E ?_|(refine C9 (ht:=fun _=>?_) (hf:=fun _=>?_)<;>try first|contradiction|omega))
     exact⟨I3,[],⟨by rw[hf];rfl,rfl⟩,hm.left (H:= [])⟩
    ·rw[decide_eq_true hd1,decide_eq_false hd2]at hf
     repeat' (first|refine Q4 (d:=23) (enc:=A7X) (z:=d) ?_ (hr:=hrow) (he:=fun _=>rfl) (hz:=hgk);intro bt ot hpt|refine Y2 (d:=9) ?_ hm;clear hm;intro b9 _ hm|refine J6 ?_ hm|refine U0 ?_ hm|refine D8 ?_|refine O0 ?_|refine J8 ?_|refine A82 ?_|refine A0m ?_|refine O9 ?_|refine D5 ?_|(refine O3 (h1:=fun _=>?_) (h0:=fun _=>?_)<;>try first|contradiction|omega)|refine E5 ?_|refine A7 ?_|refine D7 ?_|refine E8 ?_|refine A8 ?_|refine F6 ?_|refine G7 ?_|(refine C9 (ht:=fun _=>?_) (hf:=fun _=>?_)<;>try first|contradiction|omega))
     all_goals exact L6 (k+1:Nat) (by exact⟨rfl,rfl,rfl,rfl,trivial⟩) ⟨hm.tl,by omega,hf⟩ (by omega)
   ·rw[decide_eq_false hd1,A5I]at hf
    repeat' (first|refine Q4 (d:=23) (enc:=A7X) (z:=d) ?_ (hr:=hrow) (he:=fun _=>rfl) (hz:=hgk);intro bt ot hpt|refine Y2 (d:=9) ?_ hm;clear hm;intro b9 _ hm|refine J6 ?_ hm|refine U0 ?_ hm|refine D8 ?_|refine N7 ?_|refine J8 ?_|refine A82 ?_|refine O9 ?_|refine D5 ?_|refine A0z ?_|(refine O3 (h1:=fun _=>?_) (h0:=fun _=>?_)<;>try first|contradiction|omega)|refine E5 ?_|refine A7 ?_|refine D7 ?_|refine E8 ?_|refine A8 ?_|refine F6 ?_|refine G7 ?_|refine F7 ?_|(refine C9 (ht:=fun _=>?_) (hf:=fun _=>?_)<;>try first|contradiction|omega))
    all_goals exact L6 (k+1:Nat) (by exact⟨rfl,rfl,rfl,rfl,trivial⟩) ⟨hm.tl,by omega,hf⟩ (by omega)
  ·obtain rfl:k=md.length:=by omega
   rw[A40]at hf;repeat' (first|refine D6 ?_|refine J8 ?_|refine E5 ?_|refine A7 ?_|refine H6 ?_|refine G9 ?_|refine E8 ?_|refine A8 ?_|refine O8 ?_|refine J3 ?_|refine A4E ?_|(refine C9 (ht:=fun _=>?_) (hf:=fun _=>?_)<;>try first|contradiction|omega))
   exact⟨I3,[],⟨by rw[hf];rfl,rfl⟩,hm.left (H:= [])⟩
theorem D2j (at_:Int) {l:List Int}{more:Int}{la:Option Addr}{lc b6 b7:Nat} (I:P8) (hl:PtrI I b6 0 35 [.slice la l.length lc]) (hmo:PtrI I b7 0 3 [.int .i64 more]) (hr:RowI I 3 1 (.slice la l.length lc) l.length (l.flatMap B3E))
  (hn:l.length<=1000000000000) (h0:0<=at_/\at_<=1000000) (h1: -100000<=more/\more<=100000):
  CalR prog 87 #[.int .i64 at_,ptr b6,ptr b7] I [] (.int .i64 (A9S l more at_)):=by
 refine CalM.reader (CalM.of fun w E hm=>enter (N:=25) func87 rfl [(0,.int .i64 at_),(1,ptr b6),(2,ptr b7)] A4x rfl ?_)
 repeat' (first|refine A0O ?_ hm|refine D8 ?_|refine D6 ?_|refine G6 ?_|refine E5 ?_|refine A7 ?_|refine E8 ?_|refine A8 ?_|refine F6 ?_)
 refine U3 (fun k:Nat=> [(0,.int .i64 at_),(2,ptr b7),(5,nt (A9H (l.take k) at_)),(8,.slice la l.length lc),(9,nt l.length),(10,nt k)])
  (fun k w'=>Mem E I [] w'/\k<=l.length) (fun k=>l.length-k) 0
  (by exact⟨rfl,rfl,rfl,rfl,rfl,rfl,trivial⟩) ⟨hm,H9 _⟩ ?_
 clear hm;rintro k w1 ⟨hm,hk⟩;try dsimp only at hm hk |-
 have hak:A9H (l.take k) at_<=k:=by
  have:=A4p (fun z:Int=>decide (z<at_)) (l.take k);rw[P9]at this;rw[A9H];omega
 by_cases hlt:k<l.length
 ·have hg:l[k]?=some l[k]:=F9 hlt
  have hst:=C1N hg at_;have hgk:l[((k:Nat):Int).toNat]?=some l[k]:=hg;generalize l[k]=z at hg hgk hst;generalize A9H (l.take k) at_=n at hst hak |-;by_cases hz:z<at_
  ·rw[if_pos hz]at hst
   repeat' (first|refine Q4 (d:=12) (enc:=B3E) (z:=z) ?_ (hr:=hr) (he:=fun _=>rfl) (hz:=hgk);intro bt ot hpt|refine A0O ?_ hm|refine D8 ?_|refine D6 ?_|refine J8 ?_|refine O9 ?_|refine E5 ?_|refine A7 ?_|refine D7 ?_|refine E8 ?_|refine A8 ?_|refine F6 ?_|refine G7 ?_|(refine C9 (ht:=fun _=>?_) (hf:=fun _=>?_)<;>try first|contradiction|omega))
   exact L6 (k+1:Nat) (by exact⟨rfl,rfl,by rw[hst];rfl,rfl,rfl,rfl,trivial⟩) ⟨hm,by omega⟩ (by omega)
  ·rw[if_neg hz,A2S]at hst
   repeat' (first|refine Q4 (d:=12) (enc:=B3E) (z:=z) ?_ (hr:=hr) (he:=fun _=>rfl) (hz:=hgk);intro bt ot hpt|refine A0O ?_ hm|refine D8 ?_|refine D6 ?_|refine J8 ?_|refine O9 ?_|refine E5 ?_|refine A7 ?_|refine D7 ?_|refine E8 ?_|refine A8 ?_|refine F6 ?_|refine G7 ?_|(refine C9 (ht:=fun _=>?_) (hf:=fun _=>?_)<;>try first|contradiction|omega))
   exact L6 (k+1:Nat) (by exact⟨rfl,rfl,by rw[hst];rfl,rfl,rfl,rfl,trivial⟩) ⟨hm,by omega⟩ (by omega)
 ·obtain rfl:k=l.length:=by omega
  rw[V7]at hak |-;rw[A9S];generalize A9H l at_=n at hak |-;have hb: -100000000000000000<=(n:Int) *more/\(n:Int) *more<=100000000000000000:=by
   constructor
   ·have:=Int.mul_le_mul_of_nonneg_left h1.1 (Int.natCast_nonneg n)
    omega
   ·have:=Int.mul_le_mul_of_nonneg_left h1.2 (Int.natCast_nonneg n)
    omega
  generalize hp:(n:Int) *more=pr at hb |-;repeat' (first|refine D1K ?_ (h:=by rw[hp];omega);rw[hp]|refine A0O ?_ hm|refine D8 ?_|refine D6 ?_|refine J8 ?_|refine O9 ?_|refine E5 ?_|refine A7 ?_|refine H6 ?_|refine G9 ?_|refine E8 ?_|refine A8 ?_|refine O8 ?_|refine J3 ?_|refine J7 ?_|(refine C9 (ht:=fun _=>?_) (hf:=fun _=>?_)<;>try first|contradiction|omega))
  exact⟨I,[],⟨rfl,rfl,rfl⟩,hm⟩
end
section
variable {s1 s2:List UInt8}{i1 i2:List Sp.Itm}{a1 a2:Option Addr}{p1 p2:Nat}{x1 x2:List Value}
theorem D2i {l:List Int} (more:Int) {la:Option Addr}{lc bf bg:Nat} (I:P8) (hf:PtrI I bf 0 25 [.slice a1 i1.length p1]) (hg:PtrI I bg 0 25 [.slice a2 i2.length p2]) (h1:FE I i1 a1 p1 x1) (h2:FE I i2 a2 p2 x2) (hl1:s1.length<=4000) (hl2:s2.length<=4000) (hN1:∀x∈i1,Sp.ItN s1 x) (hN2:∀x∈i2,Sp.ItN s2 x)
  (hfw1:(A2c i1).length<=100000000000) (_hfw2:(A2c i2).length<=100000000000) (hr:RowI I 3 1 (.slice la l.length lc) l.length (l.flatMap B3E)) (hn:l.length<=1000000000000) (hmo: -100000<=more/\more<=100000):
  CalM prog 54 #[ptr bf,ptr bg,.slice la l.length lc,.int .i64 more] I [] (fun v _ H'=>v=.bool (B3p (A2c i1) (A2c i2) l more)/\H'= []):=by
 refine CalM.of fun w E hm=>enter (N:=61) func54 rfl [(0,ptr bf),(1,ptr bg),(2,.slice la l.length lc),(3,.int .i64 more)] B6Y rfl ?_
 have hA:=fun (J:P8) (m:Le I J)=>B7Q J (h1.le m) hl1 hN1
 have hB:=fun (J:P8) (m:Le I J)=>B7Q J (h2.le m) hl2 hN2
 have hu:=D7j hN1 hl1;rw[B3p];generalize A2c i1=us at hA hfw1 hu |-;generalize A2c i2=vs at hB |-;repeat' (first|refine A0U 2 ?_|refine A0T (d:=6) ?_ hm;clear hm;intro b6 _ hm|refine A0T (d:=7) ?_ hm;clear hm;intro b7 _ hm|refine D6 ?_|refine A2v ?_|refine E5 ?_|refine A7 ?_|refine E8 ?_|refine A8 ?_)
 obtain⟨I1,hle1,hm1,hp6⟩:=hm.freezeO;obtain⟨I2,hle2,hm2,hp7⟩:=hm1.freezeO;clear hm hm1;have hm:=hm2;clear hm2;have hle2:Le I I2:=hle1.trans hle2;have hf:=hf.le hle2;have hg:=hg.le hle2;have hr:=hr.le hle2;have hp7:=hp7;have hp6:=hp6.le ‹Le I1 I2›;refine⟨?_⟩
 repeat' (first|refine A0S (id:=2) (hm.perm pm0) [0,1,2,4,5,6] [3,7] 8 (h:=?_);clear hm;intro wd hR hm|refine V8 (d:=17) ?_ hm (hp:=pm0) (hc:=hA I2 hle2);clear hm;rintro _ I3 _ _ ⟨rfl,ua,up,rfl,hra⟩ hleI3 hm;try simp only[G5]at hm|refine V8 (d:=21) ?_ hm (hp:=pm0) (hc:=hB I3 (hle2.trans hleI3));clear hm;rintro _ I4 _ _ ⟨rfl,va,vp,rfl,hrb⟩ hleI4 hm;try simp only[G5]at hm|refine A0U 5 ?_|refine A1y ?_ hR|refine A0K ?_;replace hm:=hR.back hm;clear hR;try simp only[G5]at hm|refine D8 ?_|refine D6 ?_|refine A0w ?_|refine G6 ?_|refine E5 ?_|refine A7 ?_|refine H8 ?_|refine E8 ?_|refine A8 ?_|refine G7 ?_|refine J3 ?_|refine J7 ?_|(refine C9 (ht:=fun _=>?_) (hf:=fun _=>?_)<;>try first|contradiction|omega)|refine A0x ?_|refine U5 ?_|refine A0y ?_)
 ·exact⟨I4,[],⟨by rw[decide_eq_false (by omega)];rfl,rfl⟩,hm⟩
 rename_i heq
 have heq:us.length=vs.length:=by omega
 refine⟨?_⟩
 rw[decide_eq_true heq,A3M];repeat' (first|refine D8 ?_|refine G6 ?_|refine E5 ?_|refine A7 ?_|refine A8 ?_|refine F6 ?_)
 have hr4:=(hr.le hleI3).le hleI4;have hp64:=(hp6.le hleI3).le hleI4;have hp74:=(hp7.le hleI3).le hleI4;have hra4:=hra.le hleI4;have hS:=fun (z:Int) (h:0<=z/\z<=4000)=>D2j z (l:=l) (more:=more) I4 hp74 hp64 hr4 hn (by omega) hmo
 refine U3 (fun k:Nat=> [(9,.func (.func 87) #[] #[ptr b6,ptr b7]),(10,.slice ua us.length up),(11,.slice va vs.length vp),(28,nt us.length),(29,nt k)])
  (fun k w'=>Mem E I4 [] w'/\k<=us.length/\A7M us vs l more k=true) (fun k=>us.length-k) 0
  (by exact⟨rfl,rfl,rfl,rfl,rfl,trivial⟩) ⟨hm,H9 _,rfl⟩ ?_
 clear hm;rintro k w1 ⟨hm,hk,hak⟩;try dsimp only at hm hk hak |-
 by_cases hlt:k<us.length
 ·have hgu:us[k]?=some us[k]:=F9 hlt
  have hgv:vs[k]?=some (vs[k]'(by omega)):=F9 (by omega);have hui:=hu _ (O1 hlt);generalize us[k]=u at hgu hui;generalize vs[k]'(by omega)=v at hgv;have hst:=C0k l more hgu hgv;rw[hak,A3M]at hst;have hgku:us[((k:Nat):Int).toNat]?=some u:=hgu;have hgkv:vs[((k:Nat):Int).toNat]?=some v:=hgv;have hS1:=hS u.fr hui.1;have hS2:=hS u.df hui.2;obtain⟨z1,hz1⟩:∃z,z=A9S l more u.fr:=⟨_,rfl⟩;obtain⟨z2,hz2⟩:∃z,z=A9S l more u.df:=⟨_,rfl⟩;rw[<-hz1]at hS1 hst;rw[<-hz2]at hS2 hst;by_cases h1:z1=v.fr
  ·by_cases h2:z2=v.df
   ·rw[decide_eq_true h1,decide_eq_true h2]at hst
    repeat' (first|refine A0i (d:=35) (enc:=A5y) (z:=u) ?_ (hr:=hra4) (he:=fun _=>rfl) (hz:=hgku);intro bt ot hpt|refine A0i (d:=41) (enc:=A5y) (z:=v) ?_ (hr:=hrb) (he:=fun _=>rfl) (hz:=hgkv);intro bu ou hpu|refine A0i (d:=49) (enc:=A5y) (z:=u) ?_ (hr:=hra4) (he:=fun _=>rfl) (hz:=hgku);intro bv ov hpv|refine A0i (d:=55) (enc:=A5y) (z:=v) ?_ (hr:=hrb) (he:=fun _=>rfl) (hz:=hgkv);intro bw ow hpw|refine B4s (d:=38) (by rfl) (by rfl) (by rfl) (by rfl) (fun w' hk=>hS1.now (hm.kept0 hk) A9B) ?_|refine B4s (d:=52) (by rfl) (by rfl) (by rfl) (by rfl) (fun w' hk=>hS2.now (hm.kept0 hk) A9B) ?_|refine A0f ?_ hm|refine D8 ?_|refine D6 ?_|refine J8 ?_|refine O9 ?_|refine E5 ?_|refine A7 ?_|refine D7 ?_|refine E8 ?_|refine A8 ?_|refine F6 ?_|refine G7 ?_|refine U6 ?_|refine A0s ?_;intro _ hkq;replace hm:=hm.kept0 hkq;clear hkq|(refine C9 (ht:=fun _=>?_) (hf:=fun _=>?_)<;>try first|contradiction|omega)|refine Y4 ?_|refine A0A ?_|refine A5B ?_|refine L8 ?_|(refine X3 (fun _=>?_) (h1:=fun _=>?_)<;>try first|contradiction|omega))
    all_goals exact L6 (k+1:Nat) (by exact⟨rfl,rfl,rfl,rfl,rfl,trivial⟩) ⟨hm,by omega,by rw[hst];rfl⟩ (by omega)
   ·rw[decide_eq_false h2,Bool.and_false]at hst
    rw[B27 hst _ (by omega)];repeat' (first|refine A0i (d:=35) (enc:=A5y) (z:=u) ?_ (hr:=hra4) (he:=fun _=>rfl) (hz:=hgku);intro bt ot hpt|refine A0i (d:=41) (enc:=A5y) (z:=v) ?_ (hr:=hrb) (he:=fun _=>rfl) (hz:=hgkv);intro bu ou hpu|refine A0i (d:=49) (enc:=A5y) (z:=u) ?_ (hr:=hra4) (he:=fun _=>rfl) (hz:=hgku);intro bv ov hpv|refine A0i (d:=55) (enc:=A5y) (z:=v) ?_ (hr:=hrb) (he:=fun _=>rfl) (hz:=hgkv);intro bw ow hpw|refine B4s (d:=38) (by rfl) (by rfl) (by rfl) (by rfl) (fun w' hk=>hS1.now (hm.kept0 hk) A9B) ?_|refine B4s (d:=52) (by rfl) (by rfl) (by rfl) (by rfl) (fun w' hk=>hS2.now (hm.kept0 hk) A9B) ?_|refine A0f ?_ hm|refine D8 ?_|refine D6 ?_|refine J8 ?_|refine E5 ?_|refine A7 ?_|refine H8 ?_|refine O5 ?_|refine E8 ?_|refine A8 ?_|refine F6 ?_|refine G7 ?_|refine J3 ?_|refine J7 ?_|refine U6 ?_|refine A0s ?_;intro _ hkq;replace hm:=hm.kept0 hkq;clear hkq|(refine C9 (ht:=fun _=>?_) (hf:=fun _=>?_)<;>try first|contradiction|omega)|refine Y4 ?_|refine A0A ?_|refine A5B ?_|refine L8 ?_|(refine X3 (fun _=>?_) (h1:=fun _=>?_)<;>try first|contradiction|omega))
    all_goals exact⟨I4,[],⟨rfl,rfl⟩,hm⟩
  ·rw[decide_eq_false h1,A5I]at hst
   rw[B27 hst _ (by omega)];repeat' (first|refine A0i (d:=35) (enc:=A5y) (z:=u) ?_ (hr:=hra4) (he:=fun _=>rfl) (hz:=hgku);intro bt ot hpt|refine A0i (d:=41) (enc:=A5y) (z:=v) ?_ (hr:=hrb) (he:=fun _=>rfl) (hz:=hgkv);intro bu ou hpu|refine B4s (d:=38) (by rfl) (by rfl) (by rfl) (by rfl) (fun w' hk=>hS1.now (hm.kept0 hk) A9B) ?_|refine A0f ?_ hm|refine D8 ?_|refine D6 ?_|refine J8 ?_|refine E5 ?_|refine A7 ?_|refine H8 ?_|refine O5 ?_|refine E8 ?_|refine A8 ?_|refine F6 ?_|refine G7 ?_|refine J3 ?_|refine J7 ?_|refine U6 ?_|refine A0s ?_;intro _ hkq;replace hm:=hm.kept0 hkq;clear hkq|refine H5 ?_|(refine C9 (ht:=fun _=>?_) (hf:=fun _=>?_)<;>try first|contradiction|omega)|refine Y4 ?_|refine A0d ?_|refine A5B ?_|refine L8 ?_|refine A2z ?_|(refine X3 (fun _=>?_) (h1:=fun _=>?_)<;>try first|contradiction|omega))
   all_goals exact⟨I4,[],⟨rfl,rfl⟩,hm⟩
 ·obtain rfl:k=us.length:=by omega
  rw[hak];repeat' (first|refine D6 ?_|refine J8 ?_|refine E5 ?_|refine A7 ?_|refine H6 ?_|refine G9 ?_|refine E8 ?_|refine A8 ?_|refine O8 ?_|refine J3 ?_|refine J7 ?_|(refine C9 (ht:=fun _=>?_) (hf:=fun _=>?_)<;>try first|contradiction|omega))
  exact⟨I4,[],⟨rfl,rfl⟩,hm⟩
end
theorem D4i {s:List UInt8} (h:Sp.name s=true):s.length<=12:=by
 simp only[Sp.name,A9l,Q3,decide_eq_true_eq]at h;omega
theorem C5W (its:List Sp.Itm) (df:Int):(A2d its df).length<=(A2c its).length+1:=by
 have h1:=B69 ((df::A4z (A2c its) df).mergeSort (fun x y=>decide (x<=y)));rw[List.length_mergeSort,E9,A4z,P7]at h1;have h2:=A4p (fun u:Sp.Us=>decide (u.df=df)) (A2c its);rw[A2d,A4z];omega
theorem D5S (s nm:List UInt8) (at_:Int) (I:P8) (hC:Conv I) (hs:s.length<=9223372036854775807) (hnm:nm.length<=9223372036854775807):
  CalM prog 24 #[str s,.int .i64 at_,str nm] I [] (fun v _ H'=>v=.tuple #[str (Sp.toR s at_ nm).1,nt (Sp.toR s at_ nm).2]/\H'= []):=by
 refine CalM.of fun w E hm=>enter (N:=106) func24 rfl [(0,str s),(1,.int .i64 at_),(2,str nm)] A4x rfl ?_
 have hF:=fun (t:List UInt8) (ht:t.length<=9223372036854775807) (J:P8) (m:Le I J)=>A9R t J (hC.le m) ht
 have hF1:=hF s hs;rw[Sp.toR];by_cases h0:Y1 s≠0
 ·rw[if_pos h0]
  dsimp only
  generalize Y1 s=er at hF1 h0;generalize G8 s=its at hF1;repeat' (first|refine F8 (d:=23) ?_ hm (hp:=pm0) (hc:=hF1 I (Le.refl _));clear hm;rintro _ I2 _ _ ⟨a,cp,xs,rfl,hrow,hits,rfl⟩ hleI2 hm;try simp only[G5]at hm|refine Y2 (d:=8) ?_ hm;clear hm;intro b8 _ hm|refine D8 ?_|refine D6 ?_|refine A0w ?_|refine Y8 ?_|refine E5 ?_|refine A7 ?_|refine H8 ?_|refine E8 ?_|refine A8 ?_|refine J3 ?_|refine A4E ?_|(refine C9 (ht:=fun _=>?_) (hf:=fun _=>?_)<;>try first|contradiction|omega))
  exact⟨I2,[],⟨rfl,rfl⟩,hm.left (H:= [])⟩
 rw[if_neg h0];have h00:Y1 s=0:=by omega
 rw[h00]at hF1;have hA:=A8q h00;generalize G8 s=its at hF1 hA;have hfew:=hA.few;repeat' (first|refine F8 (d:=23) ?_ hm (hp:=pm0) (hc:=hF1 I (Le.refl _));clear hm;rintro _ I2 _ _ ⟨a,cp,xs,rfl,hrow,hits,rfl⟩ hleI2 hm;try simp only[G5]at hm|refine A0U 4 ?_|refine Y2 (d:=8) ?_ hm;clear hm;intro b8 _ hm|refine D8 ?_|refine D6 ?_|refine A0w ?_|refine Y8 ?_|refine E5 ?_|refine A7 ?_|refine E8 ?_|refine A8 ?_|refine G7 ?_|refine F7 ?_)
 obtain⟨I3,hle3,hm3,hp8⟩:=hm.freezeO;clear hm;have hm:=hm3;clear hm3;have hp8:PtrI I3 b8 0 25 [.slice a its.length cp]:=hp8;have q3:=(A7Y hrow hits hfew).le hle3;have hle03:=hleI2.trans hle3;refine⟨?_⟩
 have hD1:=B5Z I3 q3 hA;by_cases hal:A3H its≠ []
 ·rw[if_pos hal]
  dsimp only
  have hpos:0<(A3H its).length:=A24.2 hal;generalize A3H its=ds at hD1 hpos;repeat' (first|refine F8 (d:=30) ?_ hm (hp:=pm0) (hc:=hD1);clear hm;rintro _ I4 _ _ ⟨rfl,da,dp,rfl,hrd⟩ hleI4 hm;try simp only[G5]at hm|refine U0 ?_ hm|refine D6 ?_|refine A1H ?_|refine G6 ?_|refine E5 ?_|refine A7 ?_|refine H8 ?_|refine E8 ?_|refine A8 ?_|refine J3 ?_|refine A4E ?_|(refine C9 (ht:=fun _=>?_) (hf:=fun _=>?_)<;>try first|contradiction|omega))
  exact⟨I4,[],⟨rfl,rfl⟩,hm.left (H:= [])⟩
 rw[if_neg hal];have hal0:A3H its= []:=Classical.not_not.1 hal;rw[hal0]at hD1;have hus:=B21 hA.nm (by omega);have hD:=fun (J:P8) (m:Le I3 J)=>C51 at_ J (q3.le m) hA.len hA.nm hus
 have hpo:=fun df=>B9M (s:=s) (its:=its) (at_:=at_) (df:=df) (fun x hx=>(hA.nm x hx).st0)
 cases hdf:B42 its at_ with
 |none=>
  rw[hdf]at hD;dsimp only
  repeat' (first|refine F8 (d:=30) ?_ hm (hp:=pm0) (hc:=hD1);clear hm;rintro _ I4 _ _ ⟨rfl,da,dp,rfl,hrd⟩ hleI4 hm;try simp only[G5]at hm;have hp84:=hp8.le hleI4|refine F8 (d:=36) ?_ hm (hp:=pm0) (hc:=hD I4 hleI4);clear hm;rintro _ I5 _ _ ⟨rfl,rfl⟩ hleI5 hm;simp only[C8k];try simp only[G5]at hm|refine U0 ?_ hm|refine D8 ?_|refine D6 ?_|refine A1H ?_|refine G6 ?_|refine A0h ?_|refine Y8 ?_|refine E5 ?_|refine A7 ?_|refine H8 ?_|refine E8 ?_|refine A8 ?_|refine G7 ?_|refine J3 ?_|refine A4E ?_|refine H5 ?_|refine F7 ?_)
  exact⟨I5,[],⟨rfl,rfl⟩,hm.left (H:= [])⟩
 |some df=>
 rw[hdf]at hD;dsimp only
 have hNm:∀J:P8,CalR prog 51 #[str nm] J [] (.bool (Sp.name nm)):=fun J=>⟨fun w _ _=>B1O nm hnm w⟩
 cases hn:Sp.name nm with
 |false=>
  rw[hn]at hNm;rw[if_pos rfl];dsimp only
  repeat' (first|refine F8 (d:=30) ?_ hm (hp:=pm0) (hc:=hD1);clear hm;rintro _ I4 _ _ ⟨rfl,da,dp,rfl,hrd⟩ hleI4 hm;try simp only[G5]at hm;have hp84:=hp8.le hleI4|refine F8 (d:=36) ?_ hm (hp:=pm0) (hc:=hD I4 hleI4);clear hm;rintro _ I5 _ _ ⟨rfl,rfl⟩ hleI5 hm;simp only[C8k];try simp only[G5]at hm|refine U8 (d:=42) ?_ hm (hc:=hNm I5);clear hm;intro _ hm|refine U0 ?_ hm|refine D8 ?_|refine D6 ?_|refine A1H ?_|refine G6 ?_|refine A0h ?_|refine Y8 ?_|refine E5 ?_|refine A7 ?_|refine H8 ?_|refine E8 ?_|refine A8 ?_|refine G7 ?_|refine J3 ?_|refine A4E ?_|refine H5 ?_|refine F7 ?_)
  exact⟨I5,[],⟨rfl,rfl⟩,hm.left (H:= [])⟩
 |true=>
 rw[hn]at hNm;rw[if_neg (by decide)];have hnl:=D4i hn;have hM:=fun (J:P8) (m:Le I3 J)=>C7J J (hp8.le m) (q3.le m) (fun x hx=>Sp.ItN.pl hA.len (hA.nm x hx))
 have hP:=fun (J:P8) (m:Le I3 J)=>C9r df J (hp8.le m) (q3.le m) hA.len hA.nm hus
 obtain⟨n0,hn0,hpl,hold⟩:=hpo df hdf;obtain⟨hup,hpm⟩:=B2I its df;have hll:=C5W its df;have hn0l:n0.length<=4000:=by
  obtain⟨p,_,h1,_⟩:=hpl df ((hpm df).2 (.inl rfl));have:=hA.len;omega
 have hmd:=B2F (fun x hx=>Sp.ItN.pl hA.len (hA.nm x hx));generalize A2d its df=l at hP hpl hup hll |-;generalize A3g its=md at hM hold hmd |-;repeat' (first|refine F8 (d:=30) ?_ hm (hp:=pm0) (hc:=hD1);clear hm;rintro _ I4 _ _ ⟨rfl,da,dp,rfl,hrd⟩ hleI4 hm;try simp only[G5]at hm;have hp84:=hp8.le hleI4|refine F8 (d:=36) ?_ hm (hp:=pm0) (hc:=hD I4 hleI4);clear hm;rintro _ I5 _ _ ⟨rfl,rfl⟩ hleI5 hm;simp only[C8k];try simp only[G5]at hm|refine U8 (d:=42) ?_ hm (hc:=hNm I5);clear hm;intro _ hm|refine F8 (d:=44) ?_ hm (hp:=pm0) (hc:=hM I5 (hleI4.trans hleI5));clear hm;rintro _ I6 _ _ ⟨rfl,ma,mp,rfl,hrm⟩ hleI6 hm;try simp only[G5]at hm|refine U0 ?_ hm|refine D8 ?_|refine D6 ?_|refine A1H ?_|refine G6 ?_|refine A0h ?_|refine Y8 ?_|refine E5 ?_|refine A7 ?_|refine E8 ?_|refine A8 ?_|refine F6 ?_|refine G7 ?_|refine F7 ?_)
 replace hm:=hm.left (H:= []);have hle36:=(hleI4.trans hleI5).trans hleI6;refine U3 (fun k:Nat=> [(0,str s),(2,str nm),(8,ptr b8),(10,.int .i64 df),(12,str (B0Z (md.take k) df)),(44,.slice ma md.length mp),(45,nt md.length),(46,nt k)])
  (fun k w'=>Mem E I6 [] w'/\k<=md.length) (fun k=>md.length-k) 0
  (by exact⟨rfl,rfl,rfl,rfl,rfl,rfl,rfl,rfl,trivial⟩) ⟨hm,H9 _⟩ ?_
 clear hm;rintro k w1 ⟨hm,hk⟩;try dsimp only at hm hk |-
 by_cases hlt:k<md.length
 ·have hg:md[k]?=some md[k]:=F9 hlt
  have hst:=C87 hg df;have hgk:md[((k:Nat):Int).toNat]?=some md[k]:=hg;generalize md[k]=d at hg hst hgk;generalize B0Z (md.take k) df=o at hst |-;by_cases hd:d.at_=df
  ·rw[if_pos hd]at hst
   repeat' (first|refine Q4 (d:=48) (enc:=A7X) (z:=d) ?_ (hr:=hrm) (he:=fun _=>rfl) (hz:=hgk);intro bt ot hpt|refine Y2 (d:=14) ?_ hm;clear hm;intro b14 _ hm|refine J6 ?_ hm|refine U0 ?_ hm|refine D8 ?_|refine D6 ?_|refine J8 ?_|refine O6 ?_|refine O9 ?_|refine D5 ?_|refine E5 ?_|refine A7 ?_|refine D7 ?_|refine E8 ?_|refine A8 ?_|refine F6 ?_|refine G7 ?_|(refine C9 (ht:=fun _=>?_) (hf:=fun _=>?_)<;>try first|contradiction|omega))
   exact L6 (k+1:Nat) (by exact⟨rfl,rfl,rfl,rfl,by rw[hst];rfl,rfl,rfl,rfl,trivial⟩) ⟨hm.tl,by omega⟩ (by omega)
  ·rw[if_neg hd]at hst
   repeat' (first|refine Q4 (d:=48) (enc:=A7X) (z:=d) ?_ (hr:=hrm) (he:=fun _=>rfl) (hz:=hgk);intro bt ot hpt|refine Y2 (d:=14) ?_ hm;clear hm;intro b14 _ hm|refine J6 ?_ hm|refine U0 ?_ hm|refine D8 ?_|refine J8 ?_|refine O6 ?_|refine O9 ?_|refine D5 ?_|refine E5 ?_|refine A7 ?_|refine D7 ?_|refine E8 ?_|refine A8 ?_|refine F6 ?_|refine G7 ?_|(refine C9 (ht:=fun _=>?_) (hf:=fun _=>?_)<;>try first|contradiction|omega))
   exact L6 (k+1:Nat) (by exact⟨rfl,rfl,rfl,rfl,by rw[hst];rfl,rfl,rfl,rfl,trivial⟩) ⟨hm.tl,by omega⟩ (by omega)
 obtain rfl:k=md.length:=by omega
 rw[V7];generalize B0Z md df=old at hold |-;have hol:old.length<=4000:=by
  rcases hold with rfl|rfl
  ·exact H9 _
  ·exact hn0l
 have hsafe:=D0l (s:=s) (nm:=nm) hup hpl hn0 old.length (by rcases hold with rfl|rfl<;>simp);repeat' (first|refine F8 (d:=58) ?_ hm (hp:=pm0) (hc:=hP I6 hle36);clear hm;rintro _ I7 _ _ ⟨rfl,pa,pp,rfl,hrp⟩ hleI7 hm;try simp only[G5]at hm|refine D8 ?_|refine D6 ?_|refine J8 ?_|refine G6 ?_|refine E5 ?_|refine A7 ?_|refine H6 ?_|refine G9 ?_|refine E8 ?_|refine A8 ?_|refine F6 ?_|refine O8 ?_|(refine C9 (ht:=fun _=>?_) (hf:=fun _=>?_)<;>try first|contradiction|omega))
 replace hm:=hm.left (H:= []);have hle37:=hle36.trans hleI7;refine U3 (fun k:Nat=> [(0,str s),(2,str nm),(8,ptr b8),(12,str old),(15,.slice pa l.length pp),(16,str (A7r s nm old.length (l.take k) ([],0)).1),(17,.int .i64 (A7r s nm old.length (l.take k) ([],0)).2),(59,.slice pa l.length pp),(60,nt l.length),(61,nt k)])
  (fun k w'=>Mem E I7 [] w'/\k<=l.length) (fun k=>l.length-k) 0
  (by exact⟨rfl,rfl,rfl,rfl,rfl,rfl,rfl,rfl,rfl,rfl,trivial⟩) ⟨hm,H9 _⟩ ?_
 clear hm;rintro k w1 ⟨hm,hk⟩;try dsimp only at hm hk |-
 obtain⟨g1,g2,g3,g4⟩:=hsafe k hk;have hkn:k *nm.length<=l.length *12:=Nat.mul_le_mul hk hnl;have hsl:=hA.len;by_cases hlt:k<l.length
 ·have hg:l[k]?=some l[k]:=F9 hlt
  have hst:=B9b s nm old.length hg ([],0);have hgk:l[((k:Nat):Int).toNat]?=some l[k]:=hg;obtain⟨g5,g6⟩:=g3 _ hg;generalize l[k]=z at hg hst hgk g5 g6;generalize A7r s nm old.length (l.take k) ([],0)=c at hst g1 g2 g4 g5 |-;have hcl:((s.drop c.2.toNat).take (z.toNat-c.2.toNat)).length<=4000:=by
   rw[P9,A0v];omega
  repeat' (first|refine Q4 (d:=63) (enc:=B3E) (z:=z) ?_ (hr:=hrp) (he:=fun _=>rfl) (hz:=hgk);intro bt ot hpt|refine X5 (d:=71) ?_ (h:=by omega)|refine X5 (d:=72) ?_ (h:=by rw[D9];omega)|refine A0O ?_ hm|refine D8 ?_|refine D6 ?_|refine J8 ?_|refine A0m ?_|refine O9 ?_|refine A8u ?_|refine E5 ?_|refine A7 ?_|refine D7 ?_|refine E8 ?_|refine A8 ?_|refine F6 ?_|refine G7 ?_|(refine C9 (ht:=fun _=>?_) (hf:=fun _=>?_)<;>try first|contradiction|omega))
  exact L6 (k+1:Nat) (by exact⟨rfl,rfl,rfl,rfl,rfl,by rw[hst];rfl,by rw[hst];rfl,rfl,rfl,rfl,trivial⟩) ⟨hm,by omega⟩ (by omega)
 obtain rfl:k=l.length:=by omega
 rw[V7]at g1 g2 g4 |-;obtain⟨t,ht⟩:∃t,t=B4o s nm old.length l:=⟨_,rfl⟩;rw[<-ht];rw[B4o]at ht;generalize A7r s nm old.length l ([],0)=c at ht g1 g2 g4 |-;have htl:t.length<=9223372036854775807:=by
  rw[ht,D9,A0v];omega
 have hF2:=hF t htl;have hle07:=hle03.trans hle37;by_cases h1:Y1 t≠0
 ·rw[if_pos h1]
  dsimp only
  generalize Y1 t=er at hF2 h1;generalize G8 t=it2 at hF2;repeat' (first|refine X5 (d:=82) ?_ (h:=by rw[ht,D9]at htl;exact htl);rw[<-ht]|refine F8 (d:=85) ?_ hm (hp:=pm0) (hc:=hF2 I7 hle07);clear hm;rintro _ I8 _ _ ⟨a2,cp2,xs2,rfl,hrow2,hits2,rfl⟩ hleI8 hm;try simp only[G5]at hm|refine Y2 (d:=20) ?_ hm;clear hm;intro b20 _ hm|refine D8 ?_|refine D6 ?_|refine J8 ?_|refine A0w ?_|refine Y8 ?_|refine A9P ?_|refine E5 ?_|refine A7 ?_|refine H8 ?_|refine H6 ?_|refine G9 ?_|refine E8 ?_|refine A8 ?_|refine O8 ?_|refine J3 ?_|refine A4E ?_|(refine C9 (ht:=fun _=>?_) (hf:=fun _=>?_)<;>try first|contradiction|omega))
  exact⟨I8,[],⟨rfl,rfl⟩,hm.left (H:= [])⟩
 rw[if_neg h1];have h11:Y1 t=0:=by omega
 rw[h11]at hF2;have hA2:=A8q h11;generalize G8 t=it2 at hF2 hA2 |-;have hfew2:=hA2.few;repeat' (first|refine X5 (d:=82) ?_ (h:=by rw[ht,D9]at htl;exact htl);rw[<-ht]|refine F8 (d:=85) ?_ hm (hp:=pm0) (hc:=hF2 I7 hle07);clear hm;rintro _ I8 _ _ ⟨a2,cp2,xs2,rfl,hrow2,hits2,rfl⟩ hleI8 hm;try simp only[G5]at hm|refine A0U 30 ?_|refine Y2 (d:=20) ?_ hm;clear hm;intro b20 _ hm|refine D8 ?_|refine D6 ?_|refine J8 ?_|refine A0w ?_|refine Y8 ?_|refine A9P ?_|refine E5 ?_|refine A7 ?_|refine H6 ?_|refine G9 ?_|refine E8 ?_|refine A8 ?_|refine G7 ?_|refine O8 ?_|refine F7 ?_|(refine C9 (ht:=fun _=>?_) (hf:=fun _=>?_)<;>try first|contradiction|omega))
 obtain⟨I9,hle9,hm9,hp20⟩:=hm.freezeO;clear hm;have hm:=hm9;clear hm9;have hp20:PtrI I9 b20 0 25 [.slice a2 it2.length cp2]:=hp20;have q9:=(A7Y hrow2 hits2 hfew2).le hle9;have hle39:=(hle37.trans hleI8).trans hle9;have hq9:=q3.le hle39;have hp89:=hp8.le hle39;have hrp9:=(hrp.le hleI8).le hle9;have hD2:=B5Z I9 q9 hA2;refine⟨?_⟩
 by_cases hal2:A3H it2≠ []
 ·rw[if_pos hal2]
  dsimp only
  have hpos:0<(A3H it2).length:=A24.2 hal2;generalize A3H it2=ds at hD2 hpos;repeat' (first|refine F8 (d:=92) ?_ hm (hp:=pm0) (hc:=hD2);clear hm;rintro _ I10 _ _ ⟨rfl,db,dq,rfl,hrd2⟩ hleI10 hm;try simp only[G5]at hm|refine U0 ?_ hm|refine D8 ?_|refine D6 ?_|refine O0 ?_|refine A1H ?_|refine G6 ?_|refine A0z ?_|(refine O3 (h1:=fun _=>?_) (h0:=fun _=>?_)<;>try first|contradiction|omega)|refine E5 ?_|refine A7 ?_|refine H8 ?_|refine E8 ?_|refine A8 ?_|refine J3 ?_|refine A4E ?_|refine H5 ?_)
  exact⟨I10,[],⟨rfl,rfl⟩,hm.left (H:= [])⟩
 rw[if_neg hal2];have hal20:A3H it2= []:=Classical.not_not.1 hal2;rw[hal20]at hD2;have hus2:=B21 hA2.nm (by omega);have hAl:=fun (J:P8) (m:Le I9 J)=>D2i (s1:=s) (s2:=t) (i1:=its) (i2:=it2) ((nm.length:Int)-old.length) J (hp89.le m) (hp20.le m) (hq9.le m) (q9.le m) hA.len hA2.len hA.nm hA2.nm hus hus2 (hrp9.le m) (by omega) (by omega)
 cases hak:B3p (A2c its) (A2c it2) l ((nm.length:Int)-old.length) with
 |false=>
  rw[hak]at hAl;rw[if_pos rfl];dsimp only
  repeat' (first|refine F8 (d:=92) ?_ hm (hp:=pm0) (hc:=hD2);clear hm;rintro _ I10 _ _ ⟨rfl,db,dq,rfl,hrd2⟩ hleI10 hm;try simp only[G5]at hm|refine F8 (d:=102) ?_ hm (hp:=pm0) (hc:=hAl I10 hleI10);clear hm;rintro _ I11 _ _ ⟨rfl,rfl⟩ hleI11 hm;try simp only[G5]at hm|refine U0 ?_ hm|refine D8 ?_|refine D6 ?_|refine N7 ?_|refine A1H ?_|refine A0m ?_|refine G6 ?_|refine A0h ?_|refine A5e ?_|refine E5 ?_|refine A7 ?_|refine H8 ?_|refine E8 ?_|refine A8 ?_|refine J3 ?_|refine A4E ?_|refine H5 ?_)
  exact⟨I11,[],⟨rfl,rfl⟩,hm.left (H:= [])⟩
 |true=>
  rw[hak]at hAl;rw[if_neg (by decide)];repeat' (first|refine F8 (d:=92) ?_ hm (hp:=pm0) (hc:=hD2);clear hm;rintro _ I10 _ _ ⟨rfl,db,dq,rfl,hrd2⟩ hleI10 hm;try simp only[G5]at hm|refine F8 (d:=102) ?_ hm (hp:=pm0) (hc:=hAl I10 hleI10);clear hm;rintro _ I11 _ _ ⟨rfl,rfl⟩ hleI11 hm;try simp only[G5]at hm|refine U0 ?_ hm|refine D8 ?_|refine D6 ?_|refine N7 ?_|refine A1H ?_|refine A0m ?_|refine G6 ?_|refine A0h ?_|refine A5e ?_|refine E5 ?_|refine A7 ?_|refine E8 ?_|refine A8 ?_|refine G7 ?_|refine J3 ?_|refine A4E ?_|refine F7 ?_)
  exact⟨I11,[],⟨rfl,rfl⟩,hm.left (H:= [])⟩
theorem B5i (s:List UInt8) (I:P8) (hl:s.length<=1099511627776):
  CalM prog 28 #[str s] I [] (fun v I' H'=>H'= []/\∃ta tc,v=.slice ta (Q5 s).length tc/\RowI I' 62 3 (.slice ta (Q5 s).length tc) (Q5 s).length ((Q5 s).flatMap A2a)):=by
 refine CalM.of fun w E hm=>(C8g s hl w).mono fun v w' ⟨hto,hkt⟩=>?_
 rw[C52]at hto;obtain⟨ta,tc,rfl⟩:=A5f hto;obtain⟨I1,hle1,hm1,hrow⟩:=hm.take hkt hto;exact⟨I1,[],⟨rfl,ta,tc,rfl,hrow⟩,hm1⟩
theorem D7p (s:List UInt8) (at_:Int) (I:P8) (hl:s.length<=1099511627776):
  CalM prog 26 #[str s,.int .i64 at_] I [] (fun v _ H'=>v=str (B1q (Q5 s) at_)/\H'= []):=by
 refine CalM.of fun w E hm=>enter (N:=21) func26 rfl [(0,str s),(1,.int .i64 at_)] A1x rfl ?_
 have hT:=B5i s I hl;have htl:=A8f s;generalize Q5 s=ts at hT htl |-;repeat' (first|refine F8 (d:=8) ?_ hm (hp:=pm0) (hc:=hT);clear hm;rintro _ I2 _ _ ⟨rfl,ta,tc,rfl,hrow⟩ hleI2 hm;try simp only[G5]at hm|refine D8 ?_|refine D6 ?_|refine G6 ?_|refine E5 ?_|refine A7 ?_|refine E8 ?_|refine A8 ?_|refine F6 ?_)
 refine U3 (fun k:Nat=> [(1,.int .i64 at_),(8,.slice ta ts.length tc),(9,nt ts.length),(10,nt k)])
  (fun k w'=>Mem E I2 [] w'/\k<=ts.length/\B1q ts at_=B1q (ts.drop k) at_) (fun k=>ts.length-k) 0
  (by exact⟨rfl,rfl,rfl,rfl,trivial⟩) ⟨hm,H9 _,rfl⟩ ?_
 clear hm;rintro k w1 ⟨hm,hk,hf⟩;try dsimp only at hm hk hf |-
 by_cases hlt:k<ts.length
 ·have hg:ts[k]?=some ts[k]:=F9 hlt
  have hd:ts.drop k=ts[k]::ts.drop (k+1):=A3Q hlt;rw[hd,B6f]at hf;have hgk:ts[((k:Nat):Int).toNat]?=some ts[k]:=hg;generalize ts[k]=t at hg hf hgk;by_cases ht:(t.pos:Int)=at_
  ·rw[if_pos ht]at hf
   repeat' (first|refine Q4 (d:=12) (enc:=A2a) (z:=t) ?_ (hr:=hrow) (he:=fun _=>rfl) (hz:=hgk);intro bt ot hpt|refine Y2 (d:=6) ?_ hm;clear hm;intro b6 _ hm|refine J6 ?_ hm|refine U0 ?_ hm|refine D8 ?_|refine D6 ?_|refine J8 ?_|refine O6 ?_|refine D5 ?_|refine E5 ?_|refine A7 ?_|refine H8 ?_|refine O5 ?_|refine E8 ?_|refine A8 ?_|refine F6 ?_|refine G7 ?_|refine J3 ?_|refine J7 ?_|(refine C9 (ht:=fun _=>?_) (hf:=fun _=>?_)<;>try first|contradiction|omega))
   exact⟨I2,[],⟨by rw[hf],rfl⟩,hm.left (H:= [])⟩
  ·rw[if_neg ht]at hf
   repeat' (first|refine Q4 (d:=12) (enc:=A2a) (z:=t) ?_ (hr:=hrow) (he:=fun _=>rfl) (hz:=hgk);intro bt ot hpt|refine Y2 (d:=6) ?_ hm;clear hm;intro b6 _ hm|refine J6 ?_ hm|refine U0 ?_ hm|refine D8 ?_|refine J8 ?_|refine O6 ?_|refine O9 ?_|refine D5 ?_|refine E5 ?_|refine A7 ?_|refine D7 ?_|refine E8 ?_|refine A8 ?_|refine F6 ?_|refine G7 ?_|(refine C9 (ht:=fun _=>?_) (hf:=fun _=>?_)<;>try first|contradiction|omega))
   all_goals exact L6 (k+1:Nat) (by exact⟨rfl,rfl,rfl,rfl,trivial⟩) ⟨hm.tl,by omega,hf⟩ (by omega)
 ·obtain rfl:k=ts.length:=by omega
  rw[A40]at hf;repeat' (first|refine D6 ?_|refine J8 ?_|refine E5 ?_|refine A7 ?_|refine H6 ?_|refine G9 ?_|refine E8 ?_|refine A8 ?_|refine O8 ?_|refine J3 ?_|refine J7 ?_|(refine C9 (ht:=fun _=>?_) (hf:=fun _=>?_)<;>try first|contradiction|omega))
  exact⟨I2,[],⟨by rw[hf];rfl,rfl⟩,hm.left (H:= [])⟩
theorem D5y (I:P8) (hC:Conv I):CalM prog 23 #[] I [] (fun v _ H'=>v=.bool true/\H'= []):=by
 refine CalM.of fun w E hm=>enter (N:=37) func23 rfl [] C1Y rfl ?_
 have h1:=D5S B5r D5z 5 I hC (by decide) (by decide);rw[D4L]at h1;have h2:=fun (J:P8) (m:Le I J)=>A9R B5r J (hC.le m) (by decide)
 rw[B8a]at h2;have hA:=A8q B8a;have hdf:=D2a;generalize G8 B5r=its at h2 hA hdf;have hfew:=hA.few;have h3:=fun (J:P8) (a:Option Addr) (cp:Nat) (xs:List Value) (h:FE J its a cp xs)=>C51 26 J h hA.len hA.nm (B21 hA.nm (by omega))
 rw[hdf]at h3;repeat' (first|refine F8 (d:=8) ?_ hm (hp:=pm0) (hc:=h1);clear hm;rintro _ I2 _ _ ⟨rfl,rfl⟩ hleI2 hm;try simp only[G5]at hm|refine F8 (d:=12) ?_ hm (hp:=pm0) (hc:=h2 I2 hleI2);clear hm;rintro _ I3 _ _ ⟨a,cp,xs,rfl,hrow,hits,rfl⟩ hleI3 hm;try simp only[G5]at hm|refine F8 (d:=17) ?_ hm (hp:=pm0) (hc:=h3 I3 _ _ _ (A7Y hrow hits hfew));clear hm;rintro _ I4 _ _ ⟨rfl,rfl⟩ hleI4 hm;simp only[C8k];try simp only[G5]at hm|refine Y2 (d:=3) ?_ hm;clear hm;intro b3 _ hm|refine Q7 ?_ hm|refine D8 ?_|refine D6 ?_|refine O0 ?_|refine O6 ?_|refine A0g ?_|refine Y8 ?_|refine E5 ?_|refine A7 ?_|refine E8 ?_|refine A8 ?_|refine J3 ?_|refine J7 ?_)
 all_goals exact⟨I4,[],⟨rfl,rfl⟩,hm.left (H:= [])⟩
theorem B8E (w:World):(zeroValue 4).run prog w=.ok (.bool false) w:=by kernel_rfl
structure RoX where
 k:Nat
 es:A1U
theorem sp_ronly (s:List UInt8) (at_:Int) (nm:List UInt8) (hs:s.length<=1099511627776) (hnm:nm.length<=1099511627776) (I:P8) (hC:Conv I):
  CalM prog 5 #[str s,.int .i64 at_,str nm] I [] (fun v _ H'=>v=.bool true/\H'= []):=by
 refine CalM.of fun w E hm=>enter (N:=121) func5 rfl [(0,str s),(1,.int .i64 at_),(2,str nm)] A4x rfl ?_
 have hAl:=D5y I hC;have hTo:=fun (J:P8) (m:Le I J)=>D5S s nm at_ J (hC.le m) (by omega) (by omega)
 by_cases h0:(Sp.toR s at_ nm).2≠0
 ·generalize Sp.toR s at_ nm=r at hTo h0
  repeat' (first|refine F8 (d:=22) ?_ hm (hp:=pm0) (hc:=hAl);clear hm;rintro _ I1 _ _ ⟨rfl,rfl⟩ hleI1 hm;try simp only[G5]at hm|refine F8 (d:=28) ?_ hm (hp:=pm0) (hc:=hTo I1 hleI1);clear hm;rintro _ I2 _ _ ⟨rfl,rfl⟩ hleI2 hm;try simp only[G5]at hm|refine D8 ?_|refine D6 ?_|refine A0w ?_|refine A0h ?_|refine Y8 ?_|refine E5 ?_|refine A7 ?_|refine H8 ?_|refine E8 ?_|refine A8 ?_|refine G7 ?_|refine J3 ?_|refine J7 ?_|refine F7 ?_|(refine C9 (ht:=fun _=>?_) (hf:=fun _=>?_)<;>try first|contradiction|omega))
  all_goals exact⟨I2,[],⟨rfl,rfl⟩,hm.left (H:= [])⟩
 have h0:(Sp.toR s at_ nm).2=0:=by omega
 obtain⟨df,hd⟩:=D68 h0;obtain⟨n,ls,d,hdd,hn,⟨kk,htk⟩,hnd,hls,htoks,hcnt,hlen⟩:=D1I hd;have hwd:=C9N htk;have hnn:nm.length<=12:=by
  have:=hd.named;simp only[Sp.name,A9l,Q3,decide_eq_true_eq]at this;exact this.2.1.1.2
 have hA:=A8q hd.err;have hfew:=hA.few;have hsl:s.length<=4000:=C7D hd.err;have htl:(Sp.toR s at_ nm).1.length<=4000:=C7D hd.err2;have hF:=fun (J:P8) (m:Le I J)=>A9R s J (hC.le m) (by omega)
 rw[hd.err]at hF;have hdf:=hd.def_;have hnl:n.length<=s.length:=by
  have:=(A2C s _ htk).text;have:=congrArg List.length this;dsimp only at this;rw[P9,A0v]at this;omega
 have hTs:=fun (J:P8)=>B5i s J (by omega)
 have hTt:=fun (J:P8)=>B5i (Sp.toR s at_ nm).1 J (by omega)
 have hWd:=fun (J:P8)=>D7p s df J (by omega)
 rw[hdd,hwd]at hWd;have hul:=B21 hA.nm (by omega);have hU:=fun (J:P8) (a:Option Addr) (cp:Nat) (xs:List Value) (h:FE J (G8 s) a cp xs)=>B7Q J h hA.len hA.nm
 have hD:=fun (J:P8) (a:Option Addr) (cp:Nat) (xs:List Value) (h:FE J (G8 s) a cp xs)=>C51 at_ J h hA.len hA.nm hul
 rw[hdf,hdd]at hD;rw[hdd]at hls;have htsl:=A8f s;clear hd hA hdf;generalize G8 s=its at hF hfew hls hul hU hD;generalize A2c its=us at hls hul hU;generalize htk2:Q5 s=ts at hTs htoks hcnt htsl;obtain⟨t,e⟩:∃t,Sp.toR s at_ nm=(t,0):=⟨_,by rw[<-h0]⟩;rw[e]at hTo hTt htoks hlen htl;dsimp only at hTo hTt htoks hlen htl;generalize Q5 t=tt at hTt htoks;have htlen:tt.length=ts.length:=by have:=congrArg List.length htoks;rwa [P7,P7]at this
 clear e h0 htk hwd hdd;repeat' (first|refine F8 (d:=22) ?_ hm (hp:=pm0) (hc:=hAl);clear hm;rintro _ I1 _ _ ⟨rfl,rfl⟩ hleI1 hm;try simp only[G5]at hm|refine F8 (d:=28) ?_ hm (hp:=pm0) (hc:=hTo I1 hleI1);clear hm;rintro _ I2 _ _ ⟨rfl,rfl⟩ hleI2 hm;try simp only[G5]at hm|refine F8 (d:=35) ?_ hm (hp:=pm0) (hc:=hF I2 (hleI1.trans hleI2));clear hm;rintro _ I3 _ _ ⟨a,cp,xs,rfl,hrow,hits,rfl⟩ hleI3 hm;try simp only[G5]at hm|refine B0V (d:=39) hm (by rfl) (by rfl) (by rfl) (by first|exact gt0|exact gt1|exact gt2|exact gt3|exact gt4|exact gt5|exact gt6) (by rfl) (by rfl) ?_|refine F8 (d:=41) ?_ hm (hp:=pm0) (hc:=hD I3 _ _ _ (A7Y hrow hits hfew));clear hm;rintro _ I4 _ _ ⟨rfl,rfl⟩ hleI4 hm;simp only[C8k];try simp only[G5]at hm|refine F8 (d:=46) ?_ hm (hp:=pm0) (hc:=hWd I4);clear hm;rintro _ I5 _ _ ⟨rfl,rfl⟩ hleI5 hm;try simp only[G5]at hm|refine B2D (d:=47) ?_ hm;clear hm;intro b47 _ hm|refine B4n (es:= []) hm (by rfl) (by rfl) (by rfl) (by rfl) (by rfl) gt0 A76 rfl ?_;clear hm;intro _ hm;try simp only[G5]at hm|refine B0V (d:=50) hm (by rfl) (by rfl) (by rfl) (by first|exact gt0|exact gt1|exact gt2|exact gt3|exact gt4|exact gt5|exact gt6) (by rfl) (by rfl) ?_|refine F8 (d:=51) ?_ hm (hp:=pm0) (hc:=hU I5 _ _ _ ((A7Y hrow hits hfew).le (hleI4.trans hleI5)));clear hm;rintro _ I6 _ _ ⟨rfl,ua,up,rfl,hur⟩ hleI6 hm;try simp only[G5]at hm|refine Y2 (d:=9) ?_ hm;clear hm;intro b9 _ hm|refine D8 ?_|refine D6 ?_|refine A0w ?_|refine G6 ?_|refine A0h ?_|refine Y8 ?_|refine E5 ?_|refine A7 ?_|refine E8 ?_|refine A8 ?_|refine F6 ?_|refine G7 ?_|refine F7 ?_)
 have hm:Mem E I6 [.mz b47 [((d:Int),.bool true)]] _:=Mem.hd hm;have hz0:=HitZ.one (d:Int);refine U3 (fun x:RoX=> [(0,str s),(2,str nm),(7,str t),(11,.int .i64 d),(13,str n),(14,.map (some b47)),(51,.slice ua us.length up),(52,nt us.length),(53,nt x.k)])
  (fun x w'=>Mem E I6 [.mz b47 x.es] w'/\HitZ x.es ((d:Int)::A4z (us.take x.k) d)/\x.k<=us.length) (fun x=>us.length-x.k) ⟨0,[((d:Int),.bool true)]⟩
  (by exact⟨rfl,rfl,rfl,rfl,rfl,rfl,rfl,rfl,rfl,trivial⟩) ⟨hm,hz0,H9 _⟩ ?_
 clear hm hz0;rintro⟨k,es⟩ w1 ⟨hm,hZ,hk⟩;dsimp only at hm hZ hk |-;by_cases hlt:k<us.length
 ·have hg:us[k]?=some us[k]:=F9 hlt
  have hst:=B7y hg d;have hgk:us[((k:Nat):Int).toNat]?=some us[k]:=hg;generalize us[k]=u at hg hst hgk;by_cases hu:u.df=d
  ·rw[if_pos hu]at hst
   have hZ2:=hZ.put u.fr;rw[Q8, <-hst]at hZ2;repeat' (first|refine Q4 (d:=55) (enc:=A5y) (z:=u) ?_ (hr:=hur) (he:=fun _=>rfl) (hz:=hgk);intro bt ot hpt|refine U0 (d:=56) ?_ hm (hp:=hpt)|refine B4P ?_;refine D6x hm (by rfl) (by rfl) (by rfl) (by rfl) (by rfl) gt1 hZ.nodup ?_;clear hm;intro _ hm;try simp only[G5]at hm|refine Y2 (d:=16) ?_ hm;clear hm;intro b16 _ hm|refine J6 ?_ hm|refine D8 ?_|refine J8 ?_|refine O6 ?_|refine O9 ?_|refine D5 ?_|refine E5 ?_|refine A7 ?_|refine D7 ?_|refine E8 ?_|refine A8 ?_|refine F6 ?_|refine G7 ?_|(refine C9 (ht:=fun _=>?_) (hf:=fun _=>?_)<;>try first|contradiction|omega))
   all_goals exact L6 (⟨k+1,A4A es u.fr (.bool true)⟩:RoX) (by exact⟨rfl,rfl,rfl,rfl,rfl,rfl,rfl,rfl,rfl,trivial⟩) ⟨hm.tl,hZ2,by dsimp only;omega⟩ (by dsimp only;omega)
  ·rw[if_neg hu,J4]at hst
   rw[<-hst]at hZ;repeat' (first|refine Q4 (d:=55) (enc:=A5y) (z:=u) ?_ (hr:=hur) (he:=fun _=>rfl) (hz:=hgk);intro bt ot hpt|refine U0 (d:=56) ?_ hm (hp:=hpt)|refine Y2 (d:=16) ?_ hm;clear hm;intro b16 _ hm|refine J6 ?_ hm|refine D8 ?_|refine J8 ?_|refine O6 ?_|refine O9 ?_|refine D5 ?_|refine E5 ?_|refine A7 ?_|refine D7 ?_|refine E8 ?_|refine A8 ?_|refine F6 ?_|refine G7 ?_|(refine C9 (ht:=fun _=>?_) (hf:=fun _=>?_)<;>try first|contradiction|omega))
   all_goals exact L6 (⟨k+1,es⟩:RoX) (by exact⟨rfl,rfl,rfl,rfl,rfl,rfl,rfl,rfl,rfl,trivial⟩) ⟨hm.tl,hZ,by dsimp only;omega⟩ (by dsimp only;omega)
 obtain rfl:k=us.length:=by omega
 rw[V7]at hZ;have hlook:∀z:Nat,A8Z es (z:Int) (.bool false)=.bool (decide (z∈ls)):=fun z=>by
  rw[hZ.look];have:((z:Int)∈(d:Int)::A4z us d)↔z∈ls:=by
   rw[W9, <-hls,Y7];refine⟨fun ⟨y,hy,e⟩=>?_,fun h=>⟨z,h,rfl⟩⟩
   obtain rfl:y=z:=by omega
   exact hy
  simp only[this]
 have hes:es.length=ls.length:=by
  have:=hZ.len (R:=ls.map (fun z:Nat=>(z:Int))) (by
   rw[List.nodup_iff_pairwise_ne,List.pairwise_map];exact(List.nodup_iff_pairwise_ne.1 hnd).imp fun h e=>h (by omega)) (fun x=>by rw[hls,W9])
  rwa [P7]at this
 have hlsl:ls.length<=ts.length:=by rw[<-hcnt];exact A4p _ _
 have hE:(t.length:Int)-s.length=(ls.length:Int) *((nm.length:Int)-n.length):=by
  have:=congrArg (fun x:Nat=>(x:Int)) hlen;simp only[Int.natCast_add,Int.natCast_mul]at this;rw[Int.mul_sub];omega
 repeat' (first|refine F8 (d:=66) ?_ hm (hp:=pm0) (hc:=hTs I6);clear hm;rintro _ I7 _ _ ⟨rfl,ta,tc,rfl,hta⟩ hleI7 hm;try simp only[G5]at hm|refine F8 (d:=68) ?_ hm (hp:=pm0) (hc:=hTt I7);clear hm;rintro _ I8 _ _ ⟨rfl,sa,sc,rfl,hsa⟩ hleI8 hm;try simp only[G5]at hm|refine D8 ?_|refine D6 ?_|refine J8 ?_|refine A0w ?_|refine G6 ?_|refine E5 ?_|refine A7 ?_|refine H6 ?_|refine G9 ?_|refine E8 ?_|refine A8 ?_|refine F6 ?_|refine G7 ?_|refine O8 ?_|(refine C9 (ht:=fun _=>?_) (hf:=fun _=>?_)<;>try first|contradiction|omega))
 have hta8:=hta.le hleI8;refine U3 (fun k:Nat=> [(0,str s),(2,str nm),(7,str t),(13,str n),(14,.map (some b47)),(17,.slice ta ts.length tc),(18,.slice sa tt.length sc),(19,nt ((ts.take k).filter (fun t=>decide (t.pos∈ls))).length),(75,nt ts.length),(76,nt k)])
  (fun k w'=>Mem E I8 [.mz b47 es] w'/\k<=ts.length) (fun k=>ts.length-k) 0
  (by exact⟨rfl,rfl,rfl,rfl,rfl,rfl,rfl,rfl,rfl,rfl,trivial⟩) ⟨hm,H9 _⟩ ?_
 clear hm;rintro k w2 ⟨hm,hk⟩;try dsimp only at hm hk |-
 by_cases hlt:k<ts.length
 ·have hg:ts[k]?=some ts[k]:=F9 hlt
  have hg2:tt[k]?=some tt[k]:=F9 (by omega);have hgk:ts[((k:Nat):Int).toNat]?=some ts[k]:=hg;have hgk2:tt[((k:Nat):Int).toNat]?=some tt[k]:=hg2;have hty:tt[k].text=if ts[k].pos∈ls then nm else ts[k].text:=by
   have:=congrArg (fun l:List (List UInt8)=>l[k]?) htoks;simp only[Y6,hg,hg2,A1g,X4]at this;exact this
  have hstep:((ts.take (k+1)).filter (fun t=>decide (t.pos∈ls))).length=((ts.take k).filter (fun t=>decide (t.pos∈ls))).length+if ts[k].pos∈ls then 1 else 0:=by
   rw[A2N,hg,A8V,D9]
   congr 1
   by_cases e:ts[k].pos∈ls
   ·simp[e]
   ·simp[e]
  have hcl:((ts.take k).filter (fun t=>decide (t.pos∈ls))).length<=k:=by
   have:=A4p (fun t:Sp.Tok=>decide (t.pos∈ls)) (ts.take k);rw[P9]at this;omega
  have hlk:=hlook ts[k].pos;generalize ts[k]=x at hg hgk hty hstep hlk;generalize tt[k]=y at hg2 hgk2 hty;generalize ((ts.take k).filter (fun t=>decide (t.pos∈ls))).length=c0 at hstep hcl |-;obtain⟨yk,yt,yp⟩:=y;dsimp only at hty;subst hty;by_cases hx:x.pos∈ls
  ·rw[if_pos hx]at hstep hgk2
   rw[decide_eq_true hx]at hlk;repeat' (first|refine Q4 (d:=81) (enc:=A2a) (z:=x) ?_ (hr:=hta8) (he:=fun _=>rfl) (hz:=hgk);intro b1 o1 hp1|refine J9 (d:=83) (off:=o1) (j:=1) ?_ hm (hp:=hp1)|refine Q4 (d:=87) (enc:=A2a) (z:=x) ?_ (hr:=hta8) (he:=fun _=>rfl) (hz:=hgk);intro b2 o2 hp2|refine J9 (d:=89) (off:=o2) (j:=2) ?_ hm (hp:=hp2)|refine B9D (d:=90) hm (by rfl) (by rfl) (by rfl) (by rfl) gt0 hZ.nodup B8E ?_;rw[hlk]|refine Q4 (d:=96) (enc:=A2a) (z:=⟨yk,nm,yp⟩) ?_ (hr:=hsa) (he:=fun _=>rfl) (hz:=hgk2);intro b3 o3 hp3|refine J9 (d:=98) (off:=o3) (j:=1) ?_ hm (hp:=hp3)|refine D8 ?_|refine D6 ?_|refine J8 ?_|refine A0t ?_|refine O9 ?_|refine D5 ?_|refine E5 ?_|refine A7 ?_|refine D7 ?_|refine E8 ?_|refine A8 ?_|refine F6 ?_|refine G7 ?_|refine H5 ?_|(refine C9 (ht:=fun _=>?_) (hf:=fun _=>?_)<;>try first|contradiction|omega))
   all_goals exact L6 (k+1:Nat) (by exact⟨rfl,rfl,rfl,rfl,rfl,rfl,rfl,by rw[hstep];rfl,rfl,rfl,trivial⟩) ⟨hm,by omega⟩ (by omega)
  ·rw[if_neg hx]at hstep hgk2
   rw[decide_eq_false hx]at hlk;rw[A2S]at hstep;repeat' (first|refine Q4 (d:=81) (enc:=A2a) (z:=x) ?_ (hr:=hta8) (he:=fun _=>rfl) (hz:=hgk);intro b1 o1 hp1|refine J9 (d:=83) (off:=o1) (j:=1) ?_ hm (hp:=hp1)|refine Q4 (d:=87) (enc:=A2a) (z:=x) ?_ (hr:=hta8) (he:=fun _=>rfl) (hz:=hgk);intro b2 o2 hp2|refine J9 (d:=89) (off:=o2) (j:=2) ?_ hm (hp:=hp2)|refine B9D (d:=90) hm (by rfl) (by rfl) (by rfl) (by rfl) gt0 hZ.nodup B8E ?_;rw[hlk]|refine Q4 (d:=96) (enc:=A2a) (z:=⟨yk,x.text,yp⟩) ?_ (hr:=hsa) (he:=fun _=>rfl) (hz:=hgk2);intro b3 o3 hp3|refine J9 (d:=98) (off:=o3) (j:=1) ?_ hm (hp:=hp3)|refine D8 ?_|refine D6 ?_|refine J8 ?_|refine A0t ?_|refine O9 ?_|refine D5 ?_|refine E5 ?_|refine A7 ?_|refine D7 ?_|refine E8 ?_|refine A8 ?_|refine F6 ?_|refine G7 ?_|refine F7 ?_|(refine C9 (ht:=fun _=>?_) (hf:=fun _=>?_)<;>try first|contradiction|omega))
   all_goals exact L6 (k+1:Nat) (by exact⟨rfl,rfl,rfl,rfl,rfl,rfl,rfl,by rw[hstep];rfl,rfl,rfl,trivial⟩) ⟨hm,by omega⟩ (by omega)
 obtain rfl:k=ts.length:=by omega
 rw[V7,hcnt];repeat' (first|refine D6w (d:=118) hm (by rfl) (by rfl) (by rfl) gt0 ?_|refine D8 ?_|refine D6 ?_|refine O0 ?_|refine J8 ?_|refine O6 ?_|refine A0m ?_|refine A5e ?_|refine D1K ?_|(refine O3 (h1:=fun _=>?_) (h0:=fun _=>?_)<;>try first|contradiction|omega)|refine E5 ?_|refine A7 ?_|refine H6 ?_|refine G9 ?_|refine E8 ?_|refine A8 ?_|refine O8 ?_|refine J3 ?_|refine J7 ?_|(refine C9 (ht:=fun _=>?_) (hf:=fun _=>?_)<;>try first|contradiction|omega))
 all_goals exact⟨I8,[],⟨by simp[hes],rfl⟩,hm.tl⟩
end Go.Proofs
