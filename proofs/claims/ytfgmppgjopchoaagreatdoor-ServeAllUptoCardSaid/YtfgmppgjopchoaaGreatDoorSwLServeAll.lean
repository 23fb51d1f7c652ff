/- Own work: the law ServeAll. -/
import Derived.Test.YtfgmppgjopchoaaGreatDoorSw27
set_option maxHeartbeats 64000000
namespace Go.Fw
open Go.Sp
open Go
def A85:Value->Value->Bool
 | .int _ a,.int _ b=>decide (a=b)
 | .string a,.string b=>decide (a.toList=b.toList)
 | .bool a,.bool b=>decide (a=b)
 |_,_=>false
def A6g:List Value->List Value->Bool
 | [],[]=>true
 |x::xs,y::ys=>A85 x y && A6g xs ys
 |_,_=>false
def A7W:FK->Value->Bool
 | .int j,.int k _=>decide (j=k)
 | .str,.string _=>true
 | .bool,.bool _=>true
 |_,_=>false
def A7x:List FK->List Value->Bool
 | [],[]=>true
 |k::ks,x::xs=>A7W k x && A7x ks xs
 |_,_=>false
section
variable {P:Program}{N:Nat}{ds:List Deferred}{Q:Exit->Act->World->Prop}{l l':Log}{w w':World}{ops:Array Oper}{os:List Oper}{o:Oper}
variable {d:Nat}{ty:TypeId}{pos:String}{af:Array Edge}{g:Option (Nat×Bool)}{t t':TypeId}{x y:Operand}
theorem B5n {dd:TypeDesc} (h:P.underlying t=some dd) (h2:A7Z dd=false) {cs:Array Value}{i:Nat}{v:Value} (hv:cs[i]?=some v):(part t cs i).run P w=.ok v w:=by
 simp[part,A39 h,h2,hv]
theorem B8e (xs ys:List Value):∀(fs:List Field) (ks:List FK) (i:Nat) (w:World),B7A P i fs ks=true->A7x ks (xs.drop i)=true->A7x ks (ys.drop i)=true->
  (Op.eqFields 9999 xs.toArray ys.toArray fs).run P w=.ok (A6g (xs.drop i) (ys.drop i)) w
 | [],[],i,w,_,h1,h2=>by
  have e1:xs.drop i= []:=by cases h:xs.drop i with|nil=>rfl|cons a l=>rw[h]at h1;cases h1
  have e2:ys.drop i= []:=by cases h:ys.drop i with|nil=>rfl|cons a l=>rw[h]at h2;cases h2
  simp[Op.eqFields,e1,e2,A6g]
 | [],_::_,_,_,h,_,_=>by cases h
 |_::_,[],_,_,h,_,_=>by cases h
 |f::fs,k::ks,i,w,h,h1,h2=>by
  simp only[B7A,V5,Bool.not_eq_true',beq_iff_eq,beq_eq_false_iff_ne]at h;obtain⟨⟨⟨hn,ho⟩,hk⟩,hr⟩:=h;cases e1:xs.drop i with
  |nil=>rw[e1]at h1;cases h1
  |cons a xs'=>
   cases e2:ys.drop i with
   |nil=>rw[e2]at h2;cases h2
   |cons b ys'=>
    have d1:xs.drop (i+1)=xs':=by rw[<-A5W,e1];rfl
    have d2:ys.drop (i+1)=ys':=by rw[<-A5W,e2];rfl
    have g1:xs.toArray[i]?=some a:=by
     have:(xs.drop i)[0]?=some a:=by rw[e1];rfl
     simpa using this
    have g2:ys.toArray[i]?=some b:=by
     have:(ys.drop i)[0]?=some b:=by rw[e2];rfl
     simpa using this
    rw[e1]at h1;rw[e2]at h2;simp only[A7x,V5]at h1 h2;have ih:=B8e xs ys fs ks (i+1) w hr (by rw[d1];exact h1.2) (by rw[d2];exact h2.2);rw[d1,d2]at ih;simp only[Op.eqFields];rw[if_pos hn];cases hu:P.underlying f.type with
    |none=>rw[hu]at hk;cases hk
    |some dd=>
     rw[hu]at hk;have hagg:A7Z dd=false:=by
      cases dd<;>first|rfl|(cases k<;>simp at hk)
     have p1:=B5n (P:=P) (w:=w) hu hagg (i:=f.offset) (by rw[ho];exact g1);have p2:=B5n (P:=P) (w:=w) hu hagg (i:=f.offset) (by rw[ho];exact g2);have heq:(Op.equalIn 9999 f.type a b).run P w=.ok (A85 a b) w:=by
      cases k with
      |int kk=>
       cases a<;>simp[A7W]at h1
       cases b<;>simp[A7W]at h2
       cases dd<;>simp at hk
       obtain⟨e3,_⟩:=h1;obtain⟨e4,_⟩:=h2;subst e3;subst e4;rw[run_equalIn_int w 9998 f.type _ _ _ _ hu];simp[A85,A4t]
      |str=>
       cases a<;>simp[A7W]at h1
       cases b<;>simp[A7W]at h2
       cases dd<;>simp at hk
       rw[run_equalIn_string w 9998 _ _ _ hu];simp only[A85]
       congr 1
       exact A4t _ _
      |bool=>
       cases a<;>simp[A7W]at h1
       cases b<;>simp[A7W]at h2
       cases dd<;>simp at hk
       rw[run_equalIn_bool' w 9998 _ _ _ hu];simp only[A85,A4t]
     simp only[Sem.run_bind,p1,p2,Result.andThen_ok,heq,A6g];cases hc:A85 a b with
     |false=>simp
     |true=>simpa using ih
end
section
variable {P:Program}{N:Nat}{ds:List Deferred}{K:Act->World->Prop}{l l':Log}{w w':World}{ops:Array Oper}{os:List Oper}{o:Oper}
variable {d:Nat}{ty:TypeId}{pos:String}{af:Array Edge}{g:Option (Nat×Bool)}{t t':TypeId}{x y:Operand}{ik:IntKind}
theorem B3V {ks:List FK} [FlatT P t ks] {xs ys:List Value} (k:WQ P N ds ops w K os ((d,.bool (!(A6g xs ys)))::l)) (hw:U7 ops l ⟨some d,.binOp .neq t x y t',ty,pos,af,g⟩=some true:=by rfl) (hN:Nat.blt d N=true:=by rfl)
  (hx:ev l x=some (.agg xs.toArray):=by rfl) (hy:ev l y=some (.agg ys.toArray):=by rfl) (h1:A7x ks xs=true:=by rfl) (h2:A7x ks ys=true:=by rfl)
   :WQ P N ds ops w K (⟨some d,.binOp .neq t x y t',ty,pos,af,g⟩::os) l:=
 A0Z rfl hw hN (fun w' hkq c hc=>by
  obtain⟨fs,a1,a2,a3,a4⟩:=FlatT.out (P:=P) (t:=t);have hf:P.fieldsOf t=fs:=by simp[Program.fieldsOf,a1]
  have r1:=run_eqGuard_agg (P:=P) w' .neq t x y xs.toArray ys.toArray a4;have r2:=run_equalIn_agg (P:=P) w' 9999 t xs.toArray ys.toArray (by rw[hf];exact a1) a3;rw[hf,B8e xs ys _ _ 0 _ a2 h1 h2]at r2;simp only[execOp,hc.ev hx,hc.ev hy,Sem.run_bind,r1,Result.andThen_ok,run_neq_struct,r2,Sem.run_pure,A2o]) k
end
end Go.Fw
namespace Go.Sp
theorem C4G (s:Srv) (l:List Qn) (n:Nat):(rpQ s l).take n=rpQ s (l.take n):=by
 have h:=A9O s (l.take n) (l.drop n);rw[A2t]at h;rcases Nat.le_total n l.length with hn|hn
 ·have e:(rpQ s (l.take n)).length=n:=by rw[A5N,P6];omega
  rw[h];exact List.take_left' e
 ·rw[A0q hn,A0q (by rw[A5N];exact hn)]
theorem C73 {s:Srv}{l:List Qn}{k:Nat}{q:Qn}{r:Rpl} (hq:l[k]?=some q) (hr:(rpQ s l)[k]?=some r):r.id=q.id:=by
 rw[B6j s hq]at hr;obtain rfl:=A0V hr
 rfl
theorem C6w (its:List Itm) (nm:List UInt8) (args:List Int):(A9Y its nm args).ev.length<=3000:=by
 have h:=A82 its 40 nm args MR0 (H7 _);have h1:=h.top;have h2:=h.ev;have h3:MR0.ev.length=0:=rfl;have h4:MR0.steps=0:=rfl;rw[A9Y];split
 ·exact H7 _
 ·split
  ·exact H7 _
  ·split
   ·exact H7 _
   ·split
    ·exact H7 _
    ·dsimp only;omega
theorem A96 {r:Rpl} (h1:r.dgs= []) (h2:r.ran.ev= []):r.few:=by rw[Rpl.few,h1,h2];simp
theorem B30 (s:Srv) (t:List UInt8):(A8S s t).2.few:=by
 rw[A8S];split<;>exact A96 rfl rfl
theorem C74 {s:Srv} (h:OkQ s) (q:Qn):(A9X s q).few:=by
 have key:(A3n s q).2.few:=by
  rw[A3n];split
  ·exact A96 rfl rfl
  ·split
   ·exact B30 _ _
   ·split
    ·exact A96 rfl rfl
    ·split
     ·rw[B1D]
      split
      ·split
       ·exact A96 rfl rfl
       ·exact B30 _ _
      ·split
       ·exact A96 rfl rfl
       ·exact B30 _ _
     ·dsimp only
      have hA:=A9B h.err;have hf:=hA.few;rw[C2Z];split
      ·have h1:=B1x hA _ (H6 _)
       refine⟨?_,H7 _⟩
       show (A67 (J7 s.text) _).length<=_
       omega
      ·split
       ·rw[C3N];split<;>exact A96 rfl rfl
       ·split
        ·split<;>exact A96 rfl rfl
        ·split
         ·rw[C3Y];split<;>exact A96 rfl rfl
         ·split
          ·rw[C76]
           split
           ·exact A96 rfl rfl
           ·have h1:=C6w (J7 s.text) q.text q.args
            exact⟨H7 _,by dsimp only;omega⟩
          ·exact A96 rfl rfl
 exact key
theorem C02:∀ {s:Srv},OkQ s->∀(l:List Qn),∀r∈rpQ s l,r.few
 |_,_,[],r,hr=>by cases hr
 |s,h,q::l,r,hr=>by
  rw[rpQ]at hr;rcases U8.1 hr with rfl|hr
  ·exact C74 h q
  ·exact C02 (C0s h q) l r hr
end Go.Sp
namespace Go.Proofs
open Go.Proofs.Tryz
open Go.Sp
open Go.Fw
theorem C5G (d:Sp.DI):A6g (A6c d) (A6c d)=true:=by simp[A6g,A85]
theorem C3o (d:Sp.Ev):A6g (A7v d) (A7v d)=true:=by simp[A6g,A85]
theorem C9d (l:List Sp.DI) (hl:l.length<=1000000000000) (I:P7) (a b:Option Addr) (c d:Nat) (ha:RowI I 56 4 (.slice a l.length c) l.length (l.flatMap A6c)) (hb:RowI I 56 4 (.slice b l.length d) l.length (l.flatMap A6c)):
  CalM prog 17 #[.slice a l.length c,.slice b l.length d] I [] (fun v _ H'=>v=.bool true/\H'= []):=by
 refine CalM.of fun w E hm=>enter (N:=26) func17 rfl [(0,.slice a l.length c),(1,.slice b l.length d)] A0T rfl ?_
 repeat' (first|refine D8 ?_|refine D6 ?_|refine A0n ?_|refine G7 ?_|refine D9 ?_|refine A7 ?_|refine E5 ?_|refine A8 ?_|refine F5 ?_|refine G5 ?_|(refine D5 (ht:=fun _=>?_) (hf:=fun _=>?_)<;>try first|contradiction|omega))
 refine U0 (fun k:Nat=> [(0,.slice a l.length c),(1,.slice b l.length d),(12,nt l.length),(13,nt k)])
  (fun k w'=>Mem E I [] w'/\k<=l.length) (fun k=>l.length-k) 0 (by exact⟨rfl,rfl,rfl,rfl,trivial⟩) ⟨hm,H7 _⟩ ?_
 clear hm;rintro k w1 ⟨hm,hk⟩;try dsimp only at hm hk |-
 by_cases hlt:k<l.length
 ·have hg:l[k]?=some l[k]:=G6 hlt
  generalize l[k]=s at hg;repeat' (first|refine Z7 (d:=18) (enc:=A6c) (z:=s) ?_ (hr:=ha) (he:=fun _=>rfl) (hz:=by exact hg);intro b1 o1 p1|refine Z7 (d:=22) (enc:=A6c) (z:=s) ?_ (hr:=hb) (he:=fun _=>rfl) (hz:=by exact hg);intro b2 o2 p2|refine A6C ?_ hm|refine D8 ?_|refine D6 ?_|refine J6 ?_|refine P5 ?_|refine D9 ?_|refine A7 ?_|refine G8 ?_|refine D7 ?_|refine O3 ?_|refine E5 ?_|refine A8 ?_|refine F5 ?_|refine G5 ?_|refine H9 ?_|refine J9 ?_|refine U3 ?_|refine A0g ?_;intro _ hkq;replace hm:=hm.kept0 hkq;clear hkq|(refine D5 (ht:=fun _=>?_) (hf:=fun _=>?_)<;>try first|contradiction|omega)|refine A8H (ht:=fun _=>?_) (hf:=fun _=>?_)|refine X6 ?_|refine B3V ?_)
  all_goals try (exfalso;rename_i hx;rw[C5G]at hx;exact absurd hx (by decide))
  exact L8 (k+1:Nat) (by exact⟨rfl,rfl,rfl,rfl,trivial⟩) ⟨hm,by omega⟩ (by omega)
 ·obtain rfl:k=l.length:=by omega
  repeat' (first|refine D6 ?_|refine J6 ?_|refine D9 ?_|refine A7 ?_|refine H8 ?_|refine G9 ?_|refine E5 ?_|refine A8 ?_|refine P8 ?_|refine H9 ?_|refine J9 ?_|(refine D5 (ht:=fun _=>?_) (hf:=fun _=>?_)<;>try first|contradiction|omega))
  exact⟨I,[],⟨rfl,rfl⟩,hm⟩
theorem C9e (l:List Sp.Ev) (hl:l.length<=1000000000) (I:P7) (a b:Option Addr) (c d:Nat) (ha:RowI I 35 2 (.slice a l.length c) l.length (l.flatMap A7v)) (hb:RowI I 35 2 (.slice b l.length d) l.length (l.flatMap A7v)):
  CalM prog 36 #[.slice a l.length c,.slice b l.length d] I [] (fun v _ H'=>v=.bool true/\H'= []):=by
 refine CalM.of fun w E hm=>enter (N:=26) func36 rfl [(0,.slice a l.length c),(1,.slice b l.length d)] A0T rfl ?_
 repeat' (first|refine D8 ?_|refine D6 ?_|refine A0n ?_|refine G7 ?_|refine D9 ?_|refine A7 ?_|refine E5 ?_|refine A8 ?_|refine F5 ?_|refine G5 ?_|(refine D5 (ht:=fun _=>?_) (hf:=fun _=>?_)<;>try first|contradiction|omega))
 refine U0 (fun k:Nat=> [(0,.slice a l.length c),(1,.slice b l.length d),(12,nt l.length),(13,nt k)])
  (fun k w'=>Mem E I [] w'/\k<=l.length) (fun k=>l.length-k) 0 (by exact⟨rfl,rfl,rfl,rfl,trivial⟩) ⟨hm,H7 _⟩ ?_
 clear hm;rintro k w1 ⟨hm,hk⟩;try dsimp only at hm hk |-
 by_cases hlt:k<l.length
 ·have hg:l[k]?=some l[k]:=G6 hlt
  generalize l[k]=s at hg;repeat' (first|refine Z7 (d:=18) (enc:=A7v) (z:=s) ?_ (hr:=ha) (he:=fun _=>rfl) (hz:=by exact hg);intro b1 o1 p1|refine Z7 (d:=22) (enc:=A7v) (z:=s) ?_ (hr:=hb) (he:=fun _=>rfl) (hz:=by exact hg);intro b2 o2 p2|refine A6C ?_ hm|refine D8 ?_|refine D6 ?_|refine J6 ?_|refine P5 ?_|refine D9 ?_|refine A7 ?_|refine G8 ?_|refine D7 ?_|refine O3 ?_|refine E5 ?_|refine A8 ?_|refine F5 ?_|refine G5 ?_|refine H9 ?_|refine J9 ?_|refine U3 ?_|refine A0g ?_;intro _ hkq;replace hm:=hm.kept0 hkq;clear hkq|(refine D5 (ht:=fun _=>?_) (hf:=fun _=>?_)<;>try first|contradiction|omega)|refine A8H (ht:=fun _=>?_) (hf:=fun _=>?_)|refine X6 ?_|refine B3V ?_)
  all_goals try (exfalso;rename_i hx;rw[C3o]at hx;exact absurd hx (by decide))
  exact L8 (k+1:Nat) (by exact⟨rfl,rfl,rfl,rfl,trivial⟩) ⟨hm,by omega⟩ (by omega)
 ·obtain rfl:k=l.length:=by omega
  repeat' (first|refine D6 ?_|refine J6 ?_|refine D9 ?_|refine A7 ?_|refine H8 ?_|refine G9 ?_|refine E5 ?_|refine A8 ?_|refine P8 ?_|refine H9 ?_|refine J9 ?_|(refine D5 (ht:=fun _=>?_) (hf:=fun _=>?_)<;>try first|contradiction|omega))
  exact⟨I,[],⟨rfl,rfl⟩,hm⟩
theorem C9h (r:Sp.Rn) (hl:r.ev.length<=1000000000) (I:P7) (a b:Option Addr) (c d:Nat) (ha:RowI I 35 2 (.slice a r.ev.length c) r.ev.length (r.ev.flatMap A7v)) (hb:RowI I 35 2 (.slice b r.ev.length d) r.ev.length (r.ev.flatMap A7v)):
  CalM prog 23 #[B9Y a c r,B9Y b d r] I [] (fun v _ H'=>v=.bool true/\H'= []):=by
 refine CalM.of fun w E hm=>enter (N:=31) func23 rfl [(0,B9Y a c r),(1,B9Y b d r)] A0T rfl ?_
 have hE:=C9e r.ev hl I a b c d ha hb;repeat' (first|refine F6 (d:=9) ?_ hm (hp:=pm0) (hc:=hE);clear hm;rintro _ I2 _ _ ⟨rfl,rfl⟩ hleI2 hm;try simp only[F8]at hm|refine A0P (d:=2) ?_ hm;clear hm;intro b2 _ hm|refine A0P (d:=3) ?_ hm;clear hm;intro b3 _ hm|refine J4 ?_ hm|refine D8 ?_|refine D6 ?_|refine O1 ?_|refine O0 ?_|refine C9 ?_|(refine N8 (h1:=fun _=>?_) (h0:=fun _=>?_)<;>try first|contradiction|omega)|refine D9 ?_|refine A7 ?_|refine E5 ?_|refine A8 ?_|refine H9 ?_|refine J9 ?_)
 all_goals exact⟨I2,[],⟨by simp,rfl⟩,hm.left (H:= [])⟩
theorem C8b {r:Sp.Rpl}{c d:List Value}{I:P7} (h1:A4w I r c) (h2:A4w I r d) (hl:r.dgs.length<=1000000000000) (he:r.ran.ev.length<=1000000000):
  CalM prog 15 #[.agg c.toArray,.agg d.toArray] I [] (fun v _ H'=>v=.bool true/\H'= []):=by
 obtain⟨da,dp,ea,ep,rfl,g1,g2⟩:=h1;obtain⟨db,dq,eb,eq,rfl,g3,g4⟩:=h2;refine CalM.of fun w E hm=>enter (N:=59) func15 rfl [(0,.agg (rpV r da dp ea ep).toArray),(1,.agg (rpV r db dq eb eq).toArray)] A0T rfl ?_
 have hD:=C9d r.dgs hl I da db dp dq g1 g3;have hR:=fun (J:P7) (m:Le I J)=>C9h r.ran he J ea eb ep eq (g2.le m) (g4.le m)
 repeat' (first|refine B1a (d:=47) hm (by rfl) (by rfl) (by rfl) (by first|exact gt0|exact gt1|exact gt2|exact gt3|exact gt4|exact gt5|exact gt6) (by rfl) (by rfl) ?_|refine B1a (d:=49) hm (by rfl) (by rfl) (by rfl) (by first|exact gt0|exact gt1|exact gt2|exact gt3|exact gt4|exact gt5|exact gt6) (by rfl) (by rfl) ?_|refine F6 (d:=22) ?_ hm (hp:=pm0) (hc:=hD);clear hm;rintro _ I2 _ _ ⟨rfl,rfl⟩ hleI2 hm;try simp only[F8]at hm|refine F6 (d:=50) ?_ hm (hp:=pm0) (hc:=hR I2 hleI2);clear hm;rintro _ I3 _ _ ⟨rfl,rfl⟩ hleI3 hm;try simp only[F8]at hm|refine A0P (d:=2) ?_ hm;clear hm;intro b2 _ hm|refine A0P (d:=3) ?_ hm;clear hm;intro b3 _ hm|refine J4 ?_ hm|refine D8 ?_|refine D6 ?_|refine O1 ?_|refine O0 ?_|refine V8 ?_|refine C9 ?_|(refine N8 (h1:=fun _=>?_) (h0:=fun _=>?_)<;>try first|contradiction|omega)|refine D9 ?_|refine A7 ?_|refine E5 ?_|refine A8 ?_|refine H9 ?_|refine J9 ?_)
 all_goals exact⟨I3,[],⟨by simp,rfl⟩,hm.left (H:= [])⟩
theorem sp_sall (qs:List Sp.Qn) (n:Int) {la:Option Addr}{lc:Nat}{ys:List Value} (I:P7) (hr:RowI I 38 6 (.slice la qs.length lc) qs.length ys) (hat:A0F I qs ys) (hq:∀q∈qs,q.text.length<=1099511627776) (hlen:qs.length<=1099511627776) (hC:Conv I) (hT:A5O I):
  CalM prog 5 #[.slice la qs.length lc,.int .i64 n] I [] (fun v _ H'=>v=.bool true/\H'= []):=by
 refine CalM.of fun w E hm=>enter (N:=88) func5 rfl [(0,.slice la qs.length lc),(1,.int .i64 n)] A0T rfl ?_
 have hAl:=C1j I hC hT;have hP:=fun (J:P7) (m:Le I J)=>A9v (hr.le m) (hat.le m) hq (hC.le m) (hT.le m) hlen
 by_cases h40:40<qs.length
 ·rw[if_pos h40]at hP
  repeat' (first|refine F6 (d:=10) ?_ hm (hp:=pm0) (hc:=hAl);clear hm;rintro _ I1 _ _ ⟨rfl,rfl⟩ hleI1 hm;try simp only[F8]at hm|refine F6 (d:=14) ?_ hm (hp:=pm0) (hc:=hP I1 hleI1);clear hm;rintro _ I2 _ _ ⟨rfl,pa,pc,ps,rfl,hpr,hps⟩ hleI2 hm;try simp only[F8]at hm|refine D8 ?_|refine D6 ?_|refine O1 ?_|refine A0u ?_|refine O0 ?_|refine A0n ?_|refine G7 ?_|refine Y2 ?_|refine U5 ?_|refine D9 ?_|refine A7 ?_|refine G8 ?_|refine E5 ?_|refine A8 ?_|refine G5 ?_|refine H9 ?_|refine J9 ?_|refine H5 ?_|refine F7 ?_)
  all_goals exact⟨I2,[],⟨by rw[decide_eq_true (by omega)],rfl⟩,hm.left (H:= [])⟩
 rw[if_neg h40]at hP;have hrl:=A5N A1b qs;have hfw:=C02 C0S qs;have hid:=fun (k:Nat) (q:Sp.Qn) (r:Sp.Rpl) (h1:qs[k]?=some q) (h2:(Sp.rpQ A1b qs)[k]?=some r)=>C73 h1 h2
 have htk:=C4G A1b qs;generalize hrs:Sp.rpQ A1b qs=rs at hP hrl hfw hid htk;repeat' (first|refine F6 (d:=10) ?_ hm (hp:=pm0) (hc:=hAl);clear hm;rintro _ I1 _ _ ⟨rfl,rfl⟩ hleI1 hm;try simp only[F8]at hm|refine F6 (d:=14) ?_ hm (hp:=pm0) (hc:=hP I1 hleI1);clear hm;rintro _ I2 _ _ ⟨rfl,pa,pc,ps,rfl,hpr,hps⟩ hleI2 hm;try simp only[F8]at hm|refine D8 ?_|refine D6 ?_|refine A0n ?_|refine G7 ?_|refine Y2 ?_|refine U5 ?_|refine D9 ?_|refine A7 ?_|refine E5 ?_|refine A8 ?_|refine F5 ?_|refine G5 ?_|refine F7 ?_|(refine D5 (ht:=fun _=>?_) (hf:=fun _=>?_)<;>try first|contradiction|omega))
 have hr2:=(hr.le hleI1).le hleI2;have ha2:=(hat.le hleI1).le hleI2;refine U0 (fun k:Nat=> [(0,.slice la qs.length lc),(1,.int .i64 n),(5,.slice pa rs.length pc),(33,nt rs.length),(34,nt k)])
  (fun k w'=>Mem E I2 [] w'/\k<=rs.length) (fun k=>rs.length-k) 0
  (by exact⟨rfl,rfl,rfl,rfl,rfl,trivial⟩) ⟨hm,H7 _⟩ ?_
 clear hm;rintro k w1 ⟨hm,hk⟩;try dsimp only at hm hk |-
 by_cases hlt:k<rs.length
 ·have hg:rs[k]?=some rs[k]:=G6 hlt
  have hlq:k<qs.length:=by omega
  have hgq:qs[k]?=some qs[k]:=G6 hlq;have heq:=hid k _ _ hgq hg;obtain⟨da,dp,ea,ep,hc1,_,_⟩:=hps.get hg;obtain⟨aa,ac,hc2,_⟩:=ha2.get hgq;generalize rs[k]=r at hg heq hc1;generalize qs[k]=q at hgq heq hc2;repeat' (first|refine A2l (d:=39) ?_ (hr:=hpr);intro bt ot hpt;rw[show ((k:Int).toNat *11)=k *11 from rfl,hc1]at hpt|refine A2l (d:=44) ?_ (hr:=hr2);intro bu ou hpu;rw[show ((k:Int).toNat *6)=k *6 from rfl,hc2]at hpu|refine A0m ?_ hm|refine D8 ?_|refine D6 ?_|refine J6 ?_|refine P5 ?_|refine D9 ?_|refine A7 ?_|refine D7 ?_|refine E5 ?_|refine A8 ?_|refine F5 ?_|refine G5 ?_|refine U3 ?_|refine A0g ?_;intro _ hkq;replace hm:=hm.kept0 hkq;clear hkq|(refine D5 (ht:=fun _=>?_) (hf:=fun _=>?_)<;>try first|contradiction|omega)|refine X6 ?_|refine B5j ?_|refine L9 ?_)
  all_goals exact L8 (k+1:Nat) (by exact⟨rfl,rfl,rfl,rfl,rfl,trivial⟩) ⟨hm,by omega⟩ (by omega)
 obtain rfl:k=rs.length:=by omega
 by_cases hn:n<0\/(qs.length:Int)<n
 ·skip
  repeat' (first|refine D8 ?_|refine D6 ?_|refine O1 ?_|refine J8 ?_|refine J6 ?_|refine A0u ?_|refine G7 ?_|refine A0E ?_|(refine N8 (h1:=fun _=>?_) (h0:=fun _=>?_)<;>try first|contradiction|omega)|refine D9 ?_|refine A7 ?_|refine G8 ?_|refine H8 ?_|refine G9 ?_|refine E5 ?_|refine A8 ?_|refine P8 ?_|refine H9 ?_|refine J9 ?_|refine H5 ?_|(refine D5 (ht:=fun _=>?_) (hf:=fun _=>?_)<;>try first|contradiction|omega))
  all_goals exact⟨I2,[],⟨rfl,rfl⟩,hm⟩
 obtain⟨m,rfl⟩:∃m:Nat,n=m:=⟨n.toNat,by omega⟩;have hml:m<=qs.length:=by omega
 have hmt:(qs.take m).length=m:=by rw[P6];omega
 have hP2:∀(hr3:RowI I2 38 6 (.slice la m lc) m (ys.take (m *6))),CalM prog 13 #[.slice la m lc] I2 [] (B8S (rs.take m) 0):=fun hr3=>by
  have:=A9v (qs:=qs.take m) (la:=la) (lc:=lc) (ys:=ys.take (m *6)) (by rw[hmt];exact hr3) (A0F.take m ha2) (fun q hq'=>hq q (A6G hq')) ((hC.le hleI1).le hleI2) ((hT.le hleI1).le hleI2) (by omega);rw[if_neg (by omega),hmt, <-htk m]at this;exact this
 have hlm:(rs.take m).length=m:=by rw[P6];omega
 repeat' (first|refine A9F (d:=60) ?_ hr2;intro hr3|refine F6 (d:=61) ?_ hm (hp:=pm0) (hc:=hP2 hr3);clear hm;rintro _ I3 _ _ ⟨rfl,qa,qc,qx,rfl,hqr,hqx⟩ hleI3 hm;try simp only[F8]at hm|refine D8 ?_|refine D6 ?_|refine J8 ?_|refine J6 ?_|refine A0u ?_|refine G7 ?_|refine U5 ?_|refine D9 ?_|refine A7 ?_|refine H8 ?_|refine G9 ?_|refine E5 ?_|refine A8 ?_|refine F5 ?_|refine G5 ?_|refine P8 ?_|(refine D5 (ht:=fun _=>?_) (hf:=fun _=>?_)<;>try first|contradiction|omega))
 have hpr3:=hpr.le hleI3;refine U0 (fun k:Nat=> [(1,nt m),(5,.slice pa rs.length pc),(6,nt 0),(8,.slice qa (rs.take m).length qc),(65,nt (rs.take m).length),(66,nt k)])
  (fun k w'=>(∃J,Le I3 J/\Mem E J [] w')/\k<=m) (fun k=>m-k) 0
  (by exact⟨rfl,rfl,rfl,rfl,rfl,rfl,trivial⟩) ⟨⟨I3,Le.refl _,hm⟩,H7 _⟩ ?_
 clear hm;rintro k w1 ⟨⟨J,hleJ,hm⟩,hk⟩;try dsimp only at hm hk |-
 by_cases hlt:k<m
 ·have hg:rs[k]?=some rs[k]:=G6 (by omega)
  have hg2:(rs.take m)[k]?=some rs[k]:=by rw[A1z,if_pos hlt];exact hg
  have hfe:=hfw _ (O6 (by omega:k<rs.length));have h1:=(A4V.le hleI3 hps).get hg;have h2:=hqx.get hg2;have hS:=C8b (h1.le hleJ) (h2.le hleJ) hfe.1 hfe.2;have hprJ:=hpr3.le hleJ;have hqrJ:=hqr.le hleJ;have hl1:=h1.len;have hl2:=h2.len;repeat' (first|refine A1q (id:=20) (hm.perm pm0) [0,1,2,3,4,5,6,7] 9 (h:=?_);clear hm;intro wd hR hm|refine A05 (d:=71) ?_ (hr:=hprJ);intro bt ot hpt;rw[show ((k:Int).toNat *11)=k *11 from rfl]at hpt|refine A05 (d:=75) ?_ (hr:=hqrJ);intro bu ou hpu;rw[show ((k:Int).toNat *11)=k *11 from rfl]at hpu|refine A1Z (d:=72) ?_ hR (hp:=hpt) (hc:=hl1)|refine A1Z (d:=76) ?_ hR (hp:=hpu) (hc:=hl2)|refine A5J (d:=77) hm (by rfl) (by rfl) (by rfl) pm0 hS ?_;clear hm;rintro _ J2 _ _ ⟨rfl,rfl⟩ hleJ2 hm;try simp only[F8]at hm|refine A1H (i:=8) ?_ (by decide+kernel)|refine A5c (by decide+kernel) ?_;replace hm:=hR.back hm;clear hR;try simp only[F8]at hm|refine A9W ?_|refine D8 ?_|refine D6 ?_|refine J6 ?_|refine Y2 ?_|refine P5 ?_|refine D9 ?_|refine A7 ?_|refine D7 ?_|refine E5 ?_|refine A8 ?_|refine F5 ?_|refine G5 ?_|refine F7 ?_|(refine D5 (ht:=fun _=>?_) (hf:=fun _=>?_)<;>try first|contradiction|omega)|refine Z5 ?_)
  all_goals exact L8 (k+1:Nat) (by exact⟨rfl,rfl,rfl,rfl,rfl,rfl,trivial⟩) ⟨⟨J2,hleJ.trans hleJ2,hm⟩,by omega⟩ (by omega)
 ·obtain rfl:k=m:=by omega
  repeat' (first|refine D8 ?_|refine D6 ?_|refine O1 ?_|refine J6 ?_|refine O0 ?_|refine G7 ?_|refine D9 ?_|refine A7 ?_|refine H8 ?_|refine G9 ?_|refine E5 ?_|refine A8 ?_|refine P8 ?_|refine H9 ?_|refine J9 ?_|(refine D5 (ht:=fun _=>?_) (hf:=fun _=>?_)<;>try first|contradiction|omega))
  all_goals exact⟨J,[],⟨by rw[decide_eq_true (by omega)],rfl⟩,hm⟩
end Go.Proofs
