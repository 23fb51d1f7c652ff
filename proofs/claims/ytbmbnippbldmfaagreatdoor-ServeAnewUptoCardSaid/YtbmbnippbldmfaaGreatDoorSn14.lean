/- Own work. -/
import Derived.Test.YtbmbnippbldmfaaGreatDoorSn13
set_option maxHeartbeats 64000000
namespace Go.Fw
open Go.Sp
open Go
section
variable {P:Program}{N:Nat}{ds:List Deferred}{Q:Exit->Act->World->Prop}{l:Log}{w:World}{ops:Array Oper}{os:List Oper}
variable {d:Nat}{ty:TypeId}{pos:String}{af:Array Edge}{g:Option (Nat×Bool)}{t t':TypeId}{x:Operand}
theorem A5F {e:TypeId} (hT:P.underlying t=some (.pointer e)) {a:Option Addr}{k0:Value} (hw:U4 ops l ⟨some d,.binOp .neq t x (.const k0) t',ty,pos,af,g⟩=some true) (hN:Nat.blt d N=true)
  (hx:ev l x=some (.pointer a)) (hk:k0=.pointer none) (k:WL P N ds ops Q os ((d,.bool a.isSome)::l) w):WL P N ds ops Q (⟨some d,.binOp .neq t x (.const k0) t',ty,pos,af,g⟩::os) l w:=
 U6 rfl hw hN (fun c hc=>by
  subst hk;have e2:c.eval (.const (.pointer none))=.pointer none:=rfl;have e3:(!a.isNone)=a.isSome:=by cases a<;>rfl
  simp[execOp,hc.ev hx,e2,eqGuard,binOp,B3D hT a,e3]) k
end
end Go.Fw
namespace Go.Sp
theorem C44 (o:Lab) (sc:List Li) (n:List UInt8):A80 (A7N o sc) n=(match A3x sc n with|some l=>l.val o|none=>0):=by
 rw[A80,B4q];cases A3x sc n<;>rfl
theorem C1K (its:List Itm) (sc:List Lc) (e:Ex):A2C its sc e=if e.kind=2 then A80 sc e.name else if e.kind=3 then A1V its sc e.args 0 else if e.kind=4 then A3b its e.name else 0:=by
 cases e;rw[A2C];rfl
theorem C4w {o:Lab}{f n:Nat}{l:Li} (h:l.op≠some f):l.val (upL o f n)=l.val o:=by
 rw[Li.val,Li.val];cases hop:l.op with
 |none=>rfl
 |some g=>
  show (if g=f then n else o g)=o g
  rw[if_neg (fun e=>h (by rw[hop,e]))]
theorem B3B (p:LP) (f a:Nat):(A3W p f a).1=upL p.1 f (p.1 f|||a):=by
 rw[A3W];split
 ·rename_i h
  funext g
  show p.1 g=if g=f then _ else _
  rw[h];split
  ·rename_i e;rw[e]
  ·rfl
 ·rfl
theorem C5e (y:Stm):y.lets=(if y.kind=1 then [y.fr] else [])++(A1a y.thn++A1a y.els):=by cases y;rw[Stm.lets];rfl
theorem B1E (l:Li) (sc:List Li):A57 (l::sc)=l.op.toList++A57 sc:=by
 rw[A57,List.filterMap_cons];cases l.op<;>rfl
structure Apart (sc:List Li) (y:Stm) (D:List Nat):Prop where
 rest:(A57 sc++D).Nodup
 thn:(A57 sc++A1a y.thn).Nodup
 els:(A57 sc++A1a y.els).Nodup
 out:y.kind=1->y.fr∉A57 sc
 next:y.kind=1->∀n lb,(A57 (sc++ [⟨n,lb,A74 y.opn y.fr⟩])++D).Nodup
theorem Apart.of {sc:List Li}{y:Stm}{D:List Nat} (h:(A57 sc++(y.lets++D)).Nodup):Apart sc y D:=by
 have e:=C5e y;have sT:(A1a y.thn).Sublist y.lets:=by
  rw[e];exact(A7R _ _).trans (A7P _ _)
 have sE:(A1a y.els).Sublist y.lets:=by
  rw[e];exact(A7P _ _).trans (A7P _ _)
 refine⟨h.sublist ((A5v _).append (A7P _ _)),h.sublist ((A5v _).append (sT.trans (A7R _ _))),
  h.sublist ((A5v _).append (sE.trans (A7R _ _))),fun hk=>?_,fun hk n lb=>?_⟩
 ·intro hf
  rw[e,if_pos hk]at h;exact(A5w.1 h).2.2 _ hf _ (by simp) rfl
 ·rw[B4H]
  refine h.sublist ?_
  rw[O3];refine(A5v _).append (List.Sublist.append ?_ (A5v _))
  rw[e,if_pos hk];refine List.Sublist.trans ?_ (A7R _ _)
  show ((A74 y.opn y.fr).toList).Sublist [y.fr]
  rw[A74];split
  ·exact A5v _
  ·exact List.nil_sublist _
end Go.Sp
namespace Go.Fw
open Go.Sp
theorem pmO {x y:HItem}{A B C:List HItem}:((B++(A++ []))++(x::y::C)).Perm (x::y::(C++(A++B))):=by
 rw[J3];have h1:((B++A)++(x::y::C)).Perm ((x::y::C)++(B++A)):=A0P;have h2:((x::y::C)++(B++A)).Perm ((x::y::C)++(A++B)):=(A0P (l₁:=B) (l₂:=A)).append_left _;exact h1.trans h2
end Go.Fw
namespace Go.Proofs
open Go.Proofs.Tryz
open Go.Sp
open Go.Fw
structure OpenZ (zs:A1N) (o:Sp.Lab):Prop where
 nodup:(zs.map (·.1)).Nodup
 get:∀n:Nat,B1z zs (n:Int) (.int .i64 0)=nt (o n)
theorem OpenZ.nil:OpenZ [] (fun _=>0):=⟨List.nodup_nil,fun _=>rfl⟩
theorem OpenZ.put {zs:A1N}{o:Sp.Lab} (h:OpenZ zs o) (f n:Nat):OpenZ (A5Q zs (f:Int) (nt n)) (Sp.upL o f n):=by
 refine⟨B7r h.nodup,fun m=>?_⟩
 have hg:=h.get m;show (A8x (A5Q zs (f:Int) (nt n)) (m:Int)).getD _=nt (if m=f then n else o m)
 rw[B86 _ h.nodup];by_cases e:m=f
 ·subst e;rw[if_pos rfl,if_pos rfl];rfl
 ·rw[if_neg (fun h=>e (by omega)),if_neg e];exact hg
theorem _root_.Go.Fw.pmIn {x y z:HItem}: [x,y,z].Perm [y,z,x]:=A0P (l₁:= [x]) (l₂:= [y,z])
abbrev Loc:=Sp.Li×Value
abbrev A4a (o:Sp.Lab) (p:Loc):List Value:= [str p.1.name,nt (p.1.val o),p.2]
theorem B0E {o:Sp.Lab}:∀ {sc:List Loc}{i:Nat}{p:Loc},sc[i]?=some p->(sc.flatMap (A4a o))[i *3]?=some (str p.1.name)/\(sc.flatMap (A4a o))[i *3+1]?=some (nt (p.1.val o))/\(sc.flatMap (A4a o))[i *3+2]?=some p.2
 | [],i,p,h=>by simp at h
 |a::sc,0,p,h=>by
  simp only[A0A,U3]at h;subst h;exact⟨rfl,rfl,rfl⟩
 |a::sc,i+1,p,h=>by
  rw[A0E]at h;obtain⟨h1,h2,h3⟩:=B0E (o:=o) h;rw[show (i+1) *3=i *3+3 by omega];exact⟨h1,h2,h3⟩
theorem C3h (I:P6) (a b:Nat) (ha:a<256) (hb:b<256):CalR prog 78 #[nt a,nt b] I [] (nt (a|||b)):=
 ⟨fun w _ _=>(A69 a b ha hb w).mono (fun v w' ⟨h1,h2⟩=>⟨h1,by rw[h2];exact Kept.refl _ _⟩)⟩
theorem A66 (w:World):(zeroValue 3).run prog w=.ok (.int .i64 0) w:=by kernel_rfl
abbrev A92 (bd bf:Nat) (sc:List Loc) (o:Sp.Lab) (more:Bool) (sa:Option Addr) (sp bo:Nat) (zs:A1N):List HItem:=
 [.cell bd [ptr bf,.slice sa sc.length sp,.map (some bo),.bool more] 119,.row (.slice sa sc.length sp) 122 3 sc.length (sc.flatMap (A4a o)),.mz bo zs]
def C0M (J:P6) (v:Value) (op:Option Nat):Prop:=(v=.pointer none/\op=none)\/
 ∃(b off tc ec:Nat) (y:Sp.Stm) (ea:Option Addr) (v1 v2:Value),v=.pointer (some ⟨b,off,none⟩)/\PtrI J b off tc (A2K y.kind y.name y.at_ y.label y.opn y.e ea ec v1 v2 y.fr y.to)/\op=A74 y.opn y.fr
theorem C0M.le {J J':P6}{v:Value}{op:Option Nat} (h:C0M J v op) (m:Le J J'):C0M J' v op:=by
 rcases h with h|⟨b,off,tc,ec,y,ea,v1,v2,h1,h2,h3⟩
 ·exact .inl h
 ·exact .inr ⟨b,off,tc,ec,y,ea,v1,v2,h1,h2.le m,h3⟩
section
variable {bd bf sp bo:Nat}{sc:List Loc}{o:Sp.Lab}{more:Bool}{sa:Option Addr}{zs:A1N}
theorem C6p (nm:List UInt8) (I:P6) (hl:sc.length<=1000000000):
  CalM prog 81 #[ptr bd,str nm] I (A92 bd bf sc o more sa sp bo zs) (fun v _ H'=>
   (∃i p b,sc[i]?=some p/\A3x (sc.map (·.1)) nm=some p.1/\sa=some ⟨b,0,none⟩/\v=.pointer (some ⟨b,i *3,none⟩)/\H'=A92 bd bf sc o more sa sp bo zs)\/
   (A3x (sc.map (·.1)) nm=none/\∃bl,v=ptr bl/\H'=.cell bl [str [],nt 0,.pointer none] 122::A92 bd bf sc o more sa sp bo zs)):=by
 refine CalM.of fun w E hm=>enter (N:=34) func81 rfl [(0,ptr bd),(1,str nm)] A0T rfl ?_
 repeat' (first|refine J4 ?_ hm|refine D8 ?_|refine D6 ?_|refine G7 ?_|refine E5 ?_|refine A3i ?_|refine C9 ?_|refine D9 ?_|refine A7 ?_|refine E8 ?_|refine A8 ?_|refine F5 ?_)
 refine U2 (fun x:Nat=> [(0,ptr bd),(1,str nm),(5,.int .i64 ((x:Int)-1))])
  (fun x w'=>Mem E I (A92 bd bf sc o more sa sp bo zs) w'/\x<=sc.length/\∀m y,x<=m->sc[m]?=some y->y.1.name≠nm) (fun x=>x) sc.length (by exact⟨rfl,rfl,rfl,trivial⟩)
  ⟨hm,G9 _,fun m y hm hy=>by rw[A07 hm]at hy;cases hy⟩ ?_
 clear hm;rintro x w1 ⟨hm,hx,hno⟩;try dsimp only at hm hx hno |-
 cases x with
 |zero=>
  repeat' (first|refine A0K (d:=33) ?_ hm;clear hm;intro b33 _ hm|refine D8 ?_|refine D6 ?_|refine A04 ?_|refine Q3 ?_|refine D9 ?_|refine A7 ?_|refine H9 ?_|refine H5 ?_|refine E8 ?_|refine A8 ?_|refine P9 ?_|refine H8 ?_|refine J9 ?_|refine F7 ?_)
  refine⟨I,_,.inr ⟨B62 fun j y hy=>?_,b33,rfl,rfl⟩,hm⟩
  rw[A0f]at hy;cases hs:sc[j]? with
  |none=>rw[hs]at hy;cases hy
  |some p=>
   rw[hs]at hy;obtain rfl:=A0Y hy;exact hno j p (H7 _) hs
 |succ i=>
  have hg:sc[i]?=some sc[i]:=G6 hx;generalize sc[i]=p at hg;rw[show ((i+1:Nat):Int)-1=(i:Int) by omega];obtain⟨b,rfl⟩:=(hm.front 1 gt1).rowAddr (by omega);obtain⟨q1,q2,q3⟩:=B0E (o:=o) hg;by_cases hn:p.1.name=nm
  ·skip
   repeat' (first|refine A0U (i:=1) (d:=23) hm (by rfl) (by rfl) (by rfl) gt1 (by rw[V6,A1P];exact q1) ?_|refine J4 ?_ hm|refine D8 ?_|refine D6 ?_|refine A04 ?_|refine V9 ?_|refine E5 ?_|refine C9 ?_|refine A0L (k:=?_)|refine D9 ?_|refine A7 ?_|refine G8 ?_|refine O1 ?_|refine E8 ?_|refine A8 ?_|refine F5 ?_|refine G5 ?_|refine H8 ?_|refine J9 ?_|refine H6 ?_|(refine D5 (ht:=fun _=>?_) (hf:=fun _=>?_)<;>try first|contradiction|omega))
   refine⟨I,_,.inl ⟨i,p,b,hg,B4r (by rw[A0f,hg];rfl) hn (fun j y hj hy=>?_),rfl,by rw[V6,A1v],rfl⟩,hm⟩
   rw[A0f]at hy;cases hs:sc[j]? with
   |none=>rw[hs]at hy;cases hy
   |some p=>
    rw[hs]at hy;obtain rfl:=A0Y hy;exact hno j p (by omega) hs
  ·skip
   repeat' (first|refine A0U (i:=1) (d:=23) hm (by rfl) (by rfl) (by rfl) gt1 (by rw[V6,A1P];exact q1) ?_|refine J4 ?_ hm|refine D8 ?_|refine D6 ?_|refine A04 ?_|refine V9 ?_|refine E5 ?_|refine A3i ?_|refine C9 ?_|refine A0L (k:=?_)|refine D9 ?_|refine A7 ?_|refine D7 ?_|refine E8 ?_|refine A8 ?_|refine F5 ?_|refine G5 ?_|refine H6 ?_|(refine D5 (ht:=fun _=>?_) (hf:=fun _=>?_)<;>try first|contradiction|omega))
   refine L9 (i:Nat) (by exact⟨rfl,rfl,rfl,trivial⟩) ⟨hm,by omega,fun m y hm hy=>?_⟩ (by omega)
   rcases U0 i m with h|h
   ·exact hno m y h hy
   ·obtain rfl:m=i:=by omega
    rw[hg]at hy;obtain rfl:=A0Y hy;exact hn
theorem B5l (I:P6) (v:Value) (op:Option Nat) (o1:Sp.Lab) (a:Nat) (ha:a<256) (hv:C0M I v op) (hz:OpenZ zs o1) (ho:∀f,o1 f<256):
  CalM prog 80 #[ptr bd,v,nt a] I (A92 bd bf sc o more sa sp bo zs) (fun u _ H'=>u=.tuple #[]/\∃zs',OpenZ zs' (A4G (o1,more) op a).1/\H'=A92 bd bf sc o (A4G (o1,more) op a).2 sa sp bo zs'):=by
 refine CalM.of fun w E hm=>enter (N:=52) func80 rfl [(0,ptr bd),(1,v),(2,nt a)] A3C rfl ?_
 rcases hv with ⟨rfl,rfl⟩|⟨b,off,tc,ec,y,ea,v1,v2,rfl,hp,rfl⟩
 ·skip
  repeat' (first|refine A3s (e:=111) (by kernel_rfl) (by rfl) (by rfl) (by rfl) (by rfl) ?_|refine D8 ?_|refine O9 ?_|refine A0N ?_|refine D9 ?_|refine A7 ?_|refine G8 ?_|refine E8 ?_|refine A8 ?_|refine H8 ?_|refine A4U ?_|refine H6 ?_)
  exact⟨I,_,⟨rfl,zs,hz,rfl⟩,hm⟩
 ·cases hop:y.opn with
  |false=>
   rw[hop]at hp;repeat' (first|refine A3s (e:=111) (by kernel_rfl) (by rfl) (by rfl) (by rfl) (by rfl) ?_|refine J5 ?_ hm|refine D8 ?_|refine L8 ?_|refine Y9 ?_|refine E5 ?_|refine C9 ?_|refine D9 ?_|refine A7 ?_|refine G8 ?_|refine E8 ?_|refine A8 ?_|refine H8 ?_|refine A4U ?_|refine H6 ?_)
   exact⟨I,_,⟨rfl,zs,hz,rfl⟩,hm⟩
  |true=>
   rw[hop]at hp;have hlk:=hz.get y.fr;have hj:=C3h I (o1 y.fr) a (ho _) ha;have hqe:A4G (o1,more) (A74 true y.fr) a=A3W (o1,more) y.fr a:=rfl;rw[hqe];obtain⟨n1,hn1⟩:∃n1,n1=o1 y.fr|||a:=⟨_,rfl⟩
   rw[<-hn1]at hj;by_cases heq:n1=o1 y.fr
   ·have hr:A3W (o1,more) y.fr a=(o1,more):=by rw[A3W,if_pos (by rw[<-hn1];exact heq)]
    rw[hr];repeat' (first|refine A3s (e:=111) (by kernel_rfl) (by rfl) (by rfl) (by rfl) (by rfl) ?_|refine A0m (id:=1) (hm.perm pm0) [0,1,2,3,4,5,6,7,8,9] [10] 11 (h:=?_);clear hm;intro wd hR hm|refine B3o (d:=24) hR (by rfl) (by rfl) (by rfl) (by rfl) gt2 A66 ?_;rw[hlk]|refine A3p (d:=26) ?_ hR hm (hc:=hj);clear hm;intro _ hm|refine V7 (id:=2) 10 (h:=?_)|refine A73 (d:=36) hm (by rfl) (by rfl) (by rfl) (by rfl) gt2 A66 ?_;rw[hlk]|refine Y3 ?_ hR|refine A0c ?_ hR|refine A0w ?_;replace hm:=hR.back hm;clear hR;try simp only[F9]at hm|refine J5 ?_ hm|refine V3 ?_ hm|refine A0q ?_ hm|refine D8 ?_|refine D6 ?_|refine L8 ?_|refine A0y ?_|refine Y9 ?_|refine E5 ?_|refine C9 ?_|refine D9 ?_|refine A7 ?_|refine E8 ?_|refine A8 ?_|refine G5 ?_|refine X0 ?_|refine A0e ?_;intro _ hkq;replace hm:=hm.kept0 hkq;clear hkq|refine F7 ?_|(refine D5 (ht:=fun _=>?_) (hf:=fun _=>?_)<;>try first|contradiction|omega)|refine X5 ?_|refine O8 ?_|refine L6 ?_|refine Z4 ?_|refine O5 ?_|refine J8 ?_|refine A0b ?_)
    exact⟨I,_,⟨rfl,zs,hz,rfl⟩,hm⟩
   ·have hr:A3W (o1,more) y.fr a=(Sp.upL o1 y.fr n1,true):=by rw[A3W,if_neg (by rw[<-hn1];exact heq),hn1]
    rw[hr];repeat' (first|refine A3s (e:=111) (by kernel_rfl) (by rfl) (by rfl) (by rfl) (by rfl) ?_|refine A0m (id:=1) (hm.perm pm0) [0,1,2,3,4,5,6,7,8,9] [10] 11 (h:=?_);clear hm;intro wd hR hm|refine A1k (id:=3) (hm.perm pm1_2) [0,1,2,3,4,5,6,7,8,9] 13 (h:=?_);clear hm;intro wd hR hm|refine B3o (d:=24) hR (by rfl) (by rfl) (by rfl) (by rfl) gt2 A66 ?_;rw[hlk]|refine A3p (d:=26) ?_ hR hm (hc:=hj);clear hm;intro _ hm|refine V7 (id:=2) 10 (h:=?_)|refine A73 (d:=36) hm (by rfl) (by rfl) (by rfl) (by rfl) gt2 A66 ?_;rw[hlk]|refine B5u (d:=48) hm (by rfl) (by rfl) (by rfl) (by rfl) gt0 hz.nodup A66 ?_;clear hm;intro es1 j1 u1 _ hj1 hp1 hm;try simp only[F9]at hm|refine B9Q (d:=49) hm.kept (by rfl) (by rfl) (by rfl) (by rfl) ?_|refine B3n hm (by rfl) (by rfl) (by rfl) (by rfl) (by rfl) gt0 hj1 hp1 ?_;clear hm;intro _ hm;try simp only[F9]at hm|refine A1j (i:=10) ?_ (by decide+kernel)|refine A1j (i:=11) ?_ (by decide+kernel)|refine A1j (i:=12) ?_ (by decide+kernel)|refine A5a (by decide+kernel) ?_;replace hm:=hR.back hm;clear hR;try simp only[F9]at hm|refine Y3 ?_ hR|refine A0c ?_ hR|refine A0w ?_;replace hm:=hR.back hm;clear hR;try simp only[F9]at hm|refine B09 ?_|refine J5 ?_ hm|refine V3 ?_ hm|refine A0q ?_ hm|refine O6 hm (k:=?_);clear hm;intro _ hm;try simp only[F9]at hm|refine D8 ?_|refine D6 ?_|refine L8 ?_|refine A0y ?_|refine Y9 ?_|refine E5 ?_|refine C9 ?_|refine D9 ?_|refine A7 ?_|refine E8 ?_|refine A8 ?_|refine G5 ?_|refine X0 ?_|refine A0e ?_;intro _ hkq;replace hm:=hm.kept0 hkq;clear hkq|refine F7 ?_|(refine D5 (ht:=fun _=>?_) (hf:=fun _=>?_)<;>try first|contradiction|omega)|refine X5 ?_|refine O8 ?_|refine L6 ?_|refine Z4 ?_|refine O5 ?_|refine J8 ?_|refine A0b ?_)
    exact⟨I,_,⟨rfl,_,hz.put y.fr n1,rfl⟩,hm.perm pmIn⟩
end
structure InE where
 k:Nat
 I:P6
section
variable {bd bf sp bo:Nat}{sc:List Loc}{o:Sp.Lab}{more:Bool}{sa:Option Addr}{zs:A1N}{its:List Sp.Itm}{a:Option Addr}{cp:Nat}{xs:List Value}
theorem C6W (hlab:A26 its) (hsl:A4M (A7N o (sc.map (·.1)))) (hl:sc.length<=1000000000):∀(n:Nat) (e:Sp.Ex),SizeOf.sizeOf e<=n->e.small->∀(I:P6) (b off tc:Nat) (ea:Option Addr) (ec:Nat) (ys:List Value),
  FE I its a cp xs->PtrI I bf 0 25 [.slice a its.length cp]->PtrI I b off tc (A0z e ea ec)->RowI I 109 6 (.slice ea e.args.length ec) e.args.length ys->Y7 I e.args ys->
  CalM prog 79 #[ptr bd,.pointer (some ⟨b,off,none⟩)] I (A92 bd bf sc o more sa sp bo zs) (fun v _ H'=>v=nt (A2C its (A7N o (sc.map (·.1))) e)/\H'=A92 bd bf sc o more sa sp bo zs):=by
 intro n;induction n with
 |zero=>intro e h;cases e;simp at h
 |succ n ih=>
 intro e hsz hsm I b off tc ea ec ys hfe hpf hp hr hx;obtain⟨hal,hasm⟩:=A3X hsm;have hfew:=hfe.few;refine CalM.of fun w E hm=>enter (N:=71) func79 rfl [(0,ptr bd),(1,.pointer (some ⟨b,off,none⟩))] A0T rfl ?_
 rw[C1K];by_cases k2:e.kind=2
 ·rw[if_pos k2,C44]
  have hG:=C6p (bd:=bd) (bf:=bf) (sc:=sc) (o:=o) (more:=more) (sa:=sa) (sp:=sp) (bo:=bo) (zs:=zs) e.name I hl;repeat' (first|refine F6 (d:=19) ?_ hm (hp:=pm3_0) (hc:=hG);clear hm;rintro _ I2 _ w9 (⟨i,p,b2,hgi,hfl,rfl,rfl,rfl⟩|⟨hfl,bl,rfl,rfl⟩) hleI2 hm|refine A0U (i:=1) (d:=22) hm (by rfl) (by rfl) (by rfl) gt1 (by exact(B0E (o:=o) hgi).2.1) ?_|refine J4 ?_ hm|refine J5 ?_ hm|refine D8 ?_|refine D6 ?_|refine N9 ?_|refine E5 ?_|refine C9 ?_|refine D9 ?_|refine A7 ?_|refine D7 ?_|refine E8 ?_|refine A8 ?_|refine F5 ?_|refine H8 ?_|refine J9 ?_|(refine D5 (ht:=fun _=>?_) (hf:=fun _=>?_)<;>try first|contradiction|omega))
  all_goals rw[hfl]
  ·exact⟨I2,_,⟨rfl,rfl⟩,hm⟩
  ·exact⟨I2,_,⟨rfl,rfl⟩,Mem.tl hm⟩
 rw[if_neg k2];by_cases k3:e.kind=3
 ·rw[if_pos k3]
  repeat' (first|refine J5 ?_ hm|refine D8 ?_|refine D6 ?_|refine N9 ?_|refine G7 ?_|refine E5 ?_|refine C9 ?_|refine D9 ?_|refine A7 ?_|refine E8 ?_|refine A8 ?_|refine F5 ?_|(refine D5 (ht:=fun _=>?_) (hf:=fun _=>?_)<;>try first|contradiction|omega))
  refine U2 (fun x:InE=> [(0,ptr bd),(1,.pointer (some ⟨b,off,none⟩)),(5,nt (A1V its (A7N o (sc.map (·.1))) (e.args.take x.k) 0)),(29,nt e.args.length),(30,nt x.k)])
   (fun x w'=>Mem E x.I (A92 bd bf sc o more sa sp bo zs) w'/\Le I x.I/\x.k<=e.args.length) (fun x=>e.args.length-x.k) ⟨0,I⟩
   (by dsimp only;rw[Z9,A1V];exact⟨rfl,rfl,rfl,rfl,rfl,trivial⟩) ⟨hm,Le.refl _,H7 _⟩ ?_
  clear hm;rintro⟨k,I2⟩ w2 ⟨hm,hle2,hk⟩;dsimp only at hm hle2 hk |-;have hp2:=hp.le hle2;have hrow:=hr.le hle2;have hlt1:=A77 hlab hsl (e.args.take k) 0 (by omega);by_cases hlt:k<e.args.length
  ·have hg:e.args[k]?=some e.args[k]:=G6 hlt
   have hsz2:=A2r (O7 hlt);have hsm2:=A1G hasm hg;obtain⟨ea2,ec2,ys2,hc2,hr2,hx2⟩:=(hx.get hg).out;have hst:=B0U its (A7N o (sc.map (·.1))) hg 0;generalize e.args[k]=y at hg hsz2 hsm2 hc2 hr2 hx2 hst;have hlt2:=A4L hlab hsl y;have hc:=fun (b3 o3:Nat) (hp3:PtrI I2 b3 o3 109 (A0z y ea2 ec2))=>ih y (by omega) hsm2 I2 b3 o3 109 ea2 ec2 ys2 (hfe.le hle2) (hpf.le hle2) hp3 (hr2.le hle2) (Y7.le hle2 _ _ hx2)
   generalize A2C its (A7N o (sc.map (·.1))) y=ny at hc hst hlt2;generalize A1V its (A7N o (sc.map (·.1))) (e.args.take k) 0=nk at hst hlt1 |-;have hJ:=fun (J:P6)=>C3h J nk ny hlt1 hlt2
   repeat' (first|refine O0 (d:=40) ?_ (hr:=hrow);intro bt ot hpt;rw[show ((k:Int).toNat *6)=k *6 from rfl,hc2]at hpt|refine F6 (d:=41) ?_ hm (hp:=pm3_0) (hc:=hc bt ot hpt);clear hm;rintro _ I3 _ _ ⟨rfl,rfl⟩ hleI3 hm;try simp only[F9]at hm|refine S9 (d:=42) ?_ hm (hc:=hJ _);clear hm;intro _ hm|refine J5 ?_ hm|refine D8 ?_|refine D6 ?_|refine J6 ?_|refine E5 ?_|refine P7 ?_|refine C9 ?_|refine D9 ?_|refine A7 ?_|refine D7 ?_|refine E8 ?_|refine A8 ?_|refine F5 ?_|refine G5 ?_|(refine D5 (ht:=fun _=>?_) (hf:=fun _=>?_)<;>try first|contradiction|omega))
   rw[<-hst];exact L9 (⟨k+1,I3⟩:InE) (by exact⟨rfl,rfl,rfl,rfl,rfl,trivial⟩) ⟨hm,hle2.trans hleI3,by dsimp only;omega⟩ (by dsimp only;omega)
  ·obtain rfl:k=e.args.length:=by omega
   rw[V5];repeat' (first|refine D8 ?_|refine D6 ?_|refine J6 ?_|refine D9 ?_|refine A7 ?_|refine H9 ?_|refine D7 ?_|refine H5 ?_|refine E8 ?_|refine A8 ?_|refine P9 ?_|refine H8 ?_|refine J9 ?_|(refine D5 (ht:=fun _=>?_) (hf:=fun _=>?_)<;>try first|contradiction|omega))
   exact⟨I2,_,⟨rfl,rfl⟩,hm⟩
 rw[if_neg k3];by_cases k4:e.kind=4
 ·rw[if_pos k4,A3b]
  have hF:=A7b 2 e.name its I a cp xs hfe;have hri:=hfe.row;cases hf:A0Z its 2 e.name with
  |some j=>
   rw[show A4c its 2 e.name=(j:Int) by rw[A4c,hf]]at hF;obtain⟨hjl,_⟩:=A2D hf;have hg:its[j]?=some its[j]:=G6 hjl;have hno:A0o its j=its[j]:=by rw[A0o,O4,hg];rfl
   obtain⟨cs,hcs,hat,hl10⟩:=hfe.get hg;dsimp only
   rw[hno];generalize its[j]=it at hg hat
   obtain⟨ap,cp',as_,cs',ab,cb',ad,cd,xb,rfl,_⟩:=hat
   repeat' (first|refine A0m (id:=12) (hm.perm pm0) [0,1,2,3,4,5,6,7,8,9] [10] 11 (h:=?_);clear hm;intro wd hR hm|refine A1W (d:=51) ?_ hR (hp:=hpf)|refine U7 (d:=56) ?_ hm (hc:=hF);clear hm;rintro _ I2 _ _ ⟨rfl,rfl⟩ hle hm;have hleI2:=hle;try simp only[F9]at hm|refine O0 (d:=67) ?_ (hr:=hri.le hleI2);intro bt ot hpt;rw[show ((j:Int).toNat *10)=j *10 from rfl,hcs]at hpt|refine A1w (d:=65) ?_ hm (hp:=hpf.le hleI2)|refine Y3 ?_ hR|refine A0c ?_ hR|refine A0w ?_;replace hm:=hR.back hm;clear hR;try simp only[F9]at hm|refine J4 ?_ hm|refine J5 ?_ hm|refine D8 ?_|refine D6 ?_|refine A04 ?_|refine N9 ?_|refine E5 ?_|refine C9 ?_|refine D9 ?_|refine A7 ?_|refine D7 ?_|refine E8 ?_|refine A8 ?_|refine F5 ?_|refine H8 ?_|refine J9 ?_|refine H6 ?_|(refine D5 (ht:=fun _=>?_) (hf:=fun _=>?_)<;>try first|contradiction|omega)|refine Z4 ?_|refine O5 ?_|refine J8 ?_|refine A0b ?_)
   exact⟨I2,_,⟨rfl,rfl⟩,hm⟩
  |none=>
   rw[show A4c its 2 e.name= -1 by rw[A4c,hf]]at hF;repeat' (first|refine A0m (id:=12) (hm.perm pm0) [0,1,2,3,4,5,6,7,8,9] [10] 11 (h:=?_);clear hm;intro wd hR hm|refine A1W (d:=51) ?_ hR (hp:=hpf)|refine U7 (d:=56) ?_ hm (hc:=hF);clear hm;rintro _ I2 _ _ ⟨rfl,rfl⟩ hle hm;have hleI2:=hle;try simp only[F9]at hm|refine Y3 ?_ hR|refine A0c ?_ hR|refine A0w ?_;replace hm:=hR.back hm;clear hR;try simp only[F9]at hm|refine J5 ?_ hm|refine D8 ?_|refine D6 ?_|refine A04 ?_|refine N9 ?_|refine E5 ?_|refine C9 ?_|refine D9 ?_|refine A7 ?_|refine D7 ?_|refine E8 ?_|refine A8 ?_|refine F5 ?_|refine G5 ?_|refine H8 ?_|refine J9 ?_|refine F7 ?_|(refine D5 (ht:=fun _=>?_) (hf:=fun _=>?_)<;>try first|contradiction|omega)|refine Z4 ?_|refine O5 ?_|refine J8 ?_|refine A0b ?_)
   exact⟨I2,_,⟨rfl,rfl⟩,hm⟩
 ·rw[if_neg k4]
  repeat' (first|refine J5 ?_ hm|refine D8 ?_|refine D6 ?_|refine N9 ?_|refine E5 ?_|refine C9 ?_|refine D9 ?_|refine A7 ?_|refine D7 ?_|refine E8 ?_|refine A8 ?_|refine F5 ?_|refine G5 ?_|refine H8 ?_|refine J9 ?_|(refine D5 (ht:=fun _=>?_) (hf:=fun _=>?_)<;>try first|contradiction|omega))
  exact⟨I,_,⟨rfl,rfl⟩,hm⟩
end
theorem B8B {o:Sp.Lab}{f n:Nat}:∀ {sc:List Loc},f∉A57 (sc.map (·.1))->sc.flatMap (A4a (Sp.upL o f n))=sc.flatMap (A4a o)
 | [],_=>rfl
 |p::sc,h=>by
  rw[X8,B1E]at h;have h1:p.1.op≠some f:=fun e=>h (by rw[e];exact A1J _ Q7)
  rw[A0a,A0a,B8B (fun hf=>h (A12 _ hf))];show [str p.1.name,nt (p.1.val _),p.2]++_=_
  rw[C4w h1]
theorem C0W {p:Sp.LP}{op:Option Nat}{a:Nat}{sc:List Loc} (h:∀f,op=some f->f∉A57 (sc.map (·.1))):sc.flatMap (A4a (A4G p op a).1)=sc.flatMap (A4a p.1):=by
 cases op with
 |none=>rfl
 |some f=>
  show sc.flatMap (A4a (A3W p f a).1)=_
  rw[B3B,B8B (h f rfl)]
theorem B94 {o:Sp.Lab}{f n:Nat}:∀ {sc:List Loc}{i:Nat}{p:Loc},sc[i]?=some p->p.1.op=some f->(A57 (sc.map (·.1))).Nodup->(sc.flatMap (A4a o)).set (i *3+1) (nt n)=sc.flatMap (A4a (Sp.upL o f n))
 | [],i,p,h,_,_=>by simp at h
 |q::sc,0,p,h,hop,hn=>by
  simp only[A0A,U3]at h;subst h;rw[X8,B1E,hop]at hn;have h1:f∉A57 (sc.map (·.1)):=(List.nodup_cons.1 hn).1;rw[A0a,A0a,B8B h1];have e:q.1.val (Sp.upL o f n)=n:=by
   rw[Sp.Li.val,hop];show (if f=f then n else o f)=n
   rw[if_pos rfl]
  show _= [str q.1.name,nt (q.1.val _),q.2]++_
  rw[e];rfl
 |q::sc,i+1,p,h,hop,hn=>by
  rw[A0E]at h;rw[X8,B1E]at hn;have hf:f∈A57 (sc.map (·.1)):=B7z (A5s (f:=(·.1)) (A0B h)) hop;have h1:q.1.op≠some f:=fun e=>by
   rw[e]at hn;exact(List.nodup_cons.1 hn).1 hf
  have ih:=B94 (o:=o) (n:=n) h hop (A5w.1 hn).2.1;rw[A0a,A0a, <-ih,show (i+1) *3+1=i *3+1+3 by omega];have e:A4a (Sp.upL o f n) q=A4a o q:=by
   show [str q.1.name,nt (q.1.val _),q.2]=_
   rw[C4w h1]
  rw[e];rfl
theorem B5f (o:Sp.Lab):∀(sc:List Loc),(sc.flatMap (A4a o)).length=sc.length *3
 | []=>rfl
 |p::sc=>by
  have ih:=B5f o sc;rw[A0a,E9,ih];show 3+sc.length *3=(sc.length+1) *3
  omega
theorem C4c {I:P6}{x:Sp.Stm}{b o tc ec:Nat}{ea:Option Addr}{v1 v2:Value} (hp:PtrI I b o tc (A2K x.kind x.name x.at_ x.label x.opn x.e ea ec v1 v2 x.fr x.to)):PtrI I b (o+5) tc (A0z x.e ea ec):=
 hp.sub (cs':=A0z x.e ea ec) 5 (fun j u hj=>by
  match j,hj with
  |0,hj=>exact hj
  |1,hj=>exact hj
  |2,hj=>exact hj
  |3,hj=>exact hj
  |4,hj=>exact hj
  |5,hj=>exact hj
  |j+6,hj=>cases hj)
theorem _root_.Go.Fw.pmIc {r c f m:HItem}: [r,c,f,m].Perm [c,f,r,m]:=A0P (l₁:= [r]) (l₂:= [c,f])|>.append_right [m]
structure InX where
 k:Nat
 I:P6
 sc:List Loc
 p:Sp.LP
 sa:Option Addr
 sp:Nat
 zs:A1N
section
variable {bd bf bo:Nat}{its:List Sp.Itm}{a:Option Addr}{cp:Nat}{xs:List Value}
theorem C48 (hlab:A26 its):∀(n:Nat) (l:List Sp.Stm),SizeOf.sizeOf l<=n->l.length<=64->A0i l->X7 B0w B0P l->∀(I:P6) (ab:Option Addr) (cb:Nat) (xb:List Value) (sc:List Loc) (un:Nat) (p:Sp.LP) (sa:Option Addr) (sp:Nat) (zs:A1N),
  un<256->Sp.okL p->B5B (sc.map (·.1))->sc.length+P8 l<=1000000000->(A57 (sc.map (·.1))++A1a l).Nodup->(∀q∈sc,C0M I q.2 q.1.op)->OpenZ zs p.1->
  FE I its a cp xs->PtrI I bf 0 25 [.slice a its.length cp]->RowI I 111 15 (.slice ab l.length cb) l.length xb->X6 I l xb->
  CalM prog 49 #[ptr bd,.slice ab l.length cb,nt un] I (A92 bd bf sc p.1 p.2 sa sp bo zs) (fun v _ H'=>v=.tuple #[]/\∃sa' sp' zs',OpenZ zs' (A2b its l (sc.map (·.1)) un p).2.1/\
   H'=A92 bd bf sc (A2b its l (sc.map (·.1)) un p).2.1 (A2b its l (sc.map (·.1)) un p).2.2 sa' sp' bo zs'):=by
 intro n;induction n with
 |zero=>intro l h;cases l<;>simp at h
 |succ n ih=>
 intro l hsz hll hsm hall I ab cb xb sc un p sa sp zs hun hok0 hos0 hn hnd0 hat0 hz0 hfe hpf hr hx;refine CalM.of fun w E hm=>enter (N:=147) func49 rfl [(0,ptr bd),(1,.slice ab l.length cb),(2,nt un)] A3C rfl ?_
 repeat' (first|refine J4 ?_ hm|refine D8 ?_|refine D6 ?_|refine G7 ?_|refine E5 ?_|refine C9 ?_|refine D9 ?_|refine A7 ?_|refine E8 ?_|refine A8 ?_|refine F5 ?_)
 refine U2 (fun x:InX=> [(0,ptr bd),(1,.slice ab l.length cb),(2,nt un),(6,nt sc.length),(18,nt l.length),(19,nt x.k)])
  (fun x w'=>Mem E x.I (A92 bd bf x.sc x.p.1 x.p.2 x.sa x.sp bo x.zs) w'/\Le I x.I/\x.k<=l.length/\A2b its (l.take x.k) (sc.map (·.1)) un p=(x.sc.map (·.1),x.p)/\(∃r,x.sc=sc++r)/\x.sc.length<=sc.length+P8 (l.take x.k)/\
   (A57 (x.sc.map (·.1))++A1a (l.drop x.k)).Nodup/\(∀q∈x.sc,C0M x.I q.2 q.1.op)/\OpenZ x.zs x.p.1) (fun x=>l.length-x.k) ⟨0,I,sc,p,sa,sp,zs⟩
  (by exact⟨rfl,rfl,rfl,rfl,rfl,rfl,trivial⟩) ⟨hm,Le.refl _,H7 _,by dsimp only;rw[Z9,A2b],⟨[],(J3 _).symm⟩,Nat.le_add_right _ _,by dsimp only;rw[A2o];exact hnd0,hat0,hz0⟩ ?_
 clear hm hnd0 hat0 hz0;rintro⟨k,I1,sc1,p1,sa1,sp1,zs1⟩ w1 ⟨hm,hle1,hk,hinv,⟨rr,hrr⟩,hscl,hnd,hats,hz⟩;dsimp only at hm hle1 hk hinv hrr hscl hnd hats hz |-;have hok:=A6O hlab (l.take k) (A8h k hall) hok0 hos0 hun;rw[hinv]at hok;obtain⟨hokp,hoks⟩:=hok;dsimp only at hokp hoks;by_cases hlt:k<l.length
 ·have hg:l[k]?=some l[k]:=G6 hlt
  have hme:=A3w (O7 hlt);obtain⟨cs,hcs⟩:∃cs,(xb.drop (k *15)).take 15=cs:=⟨_,rfl⟩;have hat:=hx.get hg;rw[hcs]at hat
  have hsm2:=A1D hsm hg;have hal2:=A4N hall hg;rw[A6t hlt,A1a]at hnd;generalize l[k]=y at hg hme hat hsm2 hal2 hnd;have hst:=B9D its hg (sc.map (·.1)) un p;have hcy:=A4t hg;rw[hinv,C5Y]at hst;dsimp only at hst;have hap:=Sp.Apart.of hnd;obtain⟨s1,s2,s3,s4,s5⟩:=A1S hsm2;obtain⟨n1,n2,n3,n4⟩:=Sp.Stm.all_node hal2;obtain⟨z1,z2⟩:=A5T (s:=y);have hcnt:=Sp.Stm.cnt_eq y;have hcs1:P8 (l.take (k+1))=P8 (l.take k)+y.cnt:=by rw[Q8 hg,A2L,A4O]
  obtain⟨ea,ec,ex,a1',c1,xs1,a2',c2,xs2,rfl,hr3,hx3,hr4,hx4,hr5,hx5⟩:=hat.out;have hrow:=hr.le hle1;have hfe1:=hfe.le hle1;have hpf1:=hpf.le hle1;have hsl:=B3j hokp hoks;have hE:=fun (b3 o3:Nat) (hp3:PtrI I1 b3 o3 111 (A0z y.e ea ec))=>C6W (bd:=bd) (bf:=bf) (sc:=sc1) (o:=p1.1) (more:=p1.2) (sa:=sa1) (sp:=sp1) (bo:=bo) (zs:=zs1) hlab hsl (by omega) _ y.e (G9 _) s1 I1 b3 o3 111 ea ec ex hfe1 hpf1 hp3 (hr3.le hle1) (Y7.le hle1 _ _ hx3)
  have hav0:=A4L hlab hsl y.e;generalize A2C its (A7N p1.1 (sc1.map (·.1))) y.e=a0 at hE hav0 hst;have hJ:=fun (J:P6)=>C3h J a0 un hav0 hun
  have hav:=A9U hav0 hun;generalize a0|||un=av at hJ hav hst
  repeat' (first|refine O0 (d:=24) ?_ (hr:=hrow);intro bt ot hpt;rw[show ((k:Int).toNat *15)=k *15 from rfl,hcs]at hpt|refine F6 (d:=29) ?_ hm (hp:=pm3_0) (hc:=hE bt (ot+5) (C4c hpt));clear hm;rintro _ I2 _ _ ⟨rfl,rfl⟩ hleI2 hm;try simp only[F9]at hm|refine S9 (d:=31) ?_ hm (hc:=hJ _);clear hm;intro _ hm|refine A0H 6 ?_|refine D8 ?_|refine D6 ?_|refine J6 ?_|refine E5 ?_|refine C9 ?_|refine D9 ?_|refine A7 ?_|refine E8 ?_|refine A8 ?_|refine F5 ?_|refine G5 ?_|(refine D5 (ht:=fun _=>?_) (hf:=fun _=>?_)<;>try first|contradiction|omega))
  have hpt2:=hpt.le hleI2;have hle2:=hle1.trans hleI2;refine⟨?_⟩
  by_cases k1:y.kind=1
  ·rw[if_pos k1]at hst
   have hR:=B5l (bd:=bd) (bf:=bf) (sc:=sc1) (o:=p1.1) (more:=p1.2) (sa:=sa1) (sp:=sp1) (bo:=bo) (zs:=zs1) I2 (.pointer (some ⟨bt,ot,none⟩)) (A74 y.opn y.fr) p1.1 av hav (.inr ⟨bt,ot,_,ec,y,ea,_,_,rfl,hpt2,rfl⟩) hz hokp;rw[show ((p1.1,p1.2):Sp.LP)=p1 from rfl]at hR;have henc:sc1.flatMap (A4a (A4G p1 (A74 y.opn y.fr) av).1)=sc1.flatMap (A4a p1.1):=C0W (fun f hf=>by
    rw[A74]at hf;split at hf
    ·cases hf;exact hap.out k1
    ·cases hf)
   have hnx:=hap.next k1 y.name y.label;generalize A4G p1 (A74 y.opn y.fr) av=q at hR henc hst;cases ho:y.opn with
   |true=>
    rw[ho]at hst hnx hpt2;repeat' (first|refine F6 (d:=41) ?_ hm (hp:=pm3_0) (hc:=hR);clear hm;rintro _ I3 _ _ ⟨rfl,zs3,hz3,rfl⟩ hleI3 hm;try simp only[F9]at hm;rw[<-henc]at hm;replace hpt2:=hpt2.le hleI3|refine A0m (id:=9) (hm.perm pm0) [0,1,2,3,4,5,6,7,8,9] [10] 11 (h:=?_);clear hm;intro wd hR hm|refine V7 (id:=11) 9 (h:=?_)|refine A73 (d:=64) hm (by rfl) (by rfl) (by rfl) (by rfl) gt3 A66 ?_;rw[hz3.get y.fr]|refine A0m (id:=12) (hm.perm pm1_2) [0,1,2,3,4,5] [6,7] 8 (h:=?_);clear hm;intro wd hR hm|refine A3g ?_ hR|refine Y3 ?_ hR|refine A0c ?_ hR|refine A30 (d:=10) ?_ hm;clear hm;intro b10 _ hm|refine A1U (d:=73) ?_ hm;clear hm;intro a73 cp73 _ _ hm;replace hm:=hR.back hm;clear hR;try simp only[F9]at hm|refine A0w ?_;replace hm:=hR.back hm;clear hR;try simp only[F9]at hm|refine J5 ?_ hm|refine V3 ?_ hm|refine A0q ?_ hm|refine N7 ?_ hm;clear hm;intro _ hm;try simp only[F9]at hm|refine O6 hm (k:=?_);clear hm;intro _ hm;try simp only[F9]at hm|refine D8 ?_|refine D6 ?_|refine N9 ?_|refine E5 ?_|refine P7 ?_|refine C9 ?_|refine D9 ?_|refine A7 ?_|refine D7 ?_|refine E8 ?_|refine A8 ?_|refine F5 ?_|refine A0e ?_;intro _ hkq;replace hm:=hm.kept0 hkq;clear hkq|refine H6 ?_|(refine D5 (ht:=fun _=>?_) (hf:=fun _=>?_)<;>try first|contradiction|omega)|refine X5 ?_|refine O8 ?_|refine L6 ?_|refine Z4 ?_|refine O5 ?_|refine J8 ?_|refine A2M ?_|refine A0b ?_)
    refine L9 (⟨k+1,I3,sc1++ [(⟨y.name,y.label,A74 true y.fr⟩,.pointer (some ⟨bt,ot,none⟩))],q,a73,cp73,zs3⟩:InX) (by exact⟨rfl,rfl,rfl,rfl,rfl,rfl,trivial⟩)
     ⟨?_,hle2.trans hleI3,by dsimp only;omega,by dsimp only;rw[hst,Y8];rfl,⟨rr++ [_],by dsimp only;rw[hrr,O3]⟩,by dsimp only;rw[E9];show _+1<=_;omega,by dsimp only;rw[Y8];exact hnx,fun q' hq'=>?_,hz3⟩ (by dsimp only;omega)
    ·dsimp only[A92]
     rw[X9,E9];exact(hm.perm pmIc).tl
    ·rcases A0d.1 hq' with h|h
     ·exact((hats q' h).le hleI2).le hleI3
     ·obtain rfl:=A0v.1 h
      exact .inr ⟨bt,ot,_,ec,y,ea,_,_,rfl,by rw[ho];exact hpt2,by rw[ho]⟩
   |false=>
    rw[ho]at hst hnx hpt2;repeat' (first|refine F6 (d:=41) ?_ hm (hp:=pm3_0) (hc:=hR);clear hm;rintro _ I3 _ _ ⟨rfl,zs3,hz3,rfl⟩ hleI3 hm;try simp only[F9]at hm;rw[<-henc]at hm;replace hpt2:=hpt2.le hleI3|refine A0m (id:=9) (hm.perm pm0) [0,1,2,3,4,5,6,7,8,9] [10] 11 (h:=?_);clear hm;intro wd hR hm|refine A0m (id:=12) (hm.perm pm1_2) [0,1,2,3,4,5] [6,7] 8 (h:=?_);clear hm;intro wd hR hm|refine A3g ?_ hR|refine Y3 ?_ hR|refine A0c ?_ hR|refine A30 (d:=10) ?_ hm;clear hm;intro b10 _ hm|refine A1U (d:=73) ?_ hm;clear hm;intro a73 cp73 _ _ hm;replace hm:=hR.back hm;clear hR;try simp only[F9]at hm|refine A0w ?_;replace hm:=hR.back hm;clear hR;try simp only[F9]at hm|refine J5 ?_ hm|refine N7 ?_ hm;clear hm;intro _ hm;try simp only[F9]at hm|refine O6 hm (k:=?_);clear hm;intro _ hm;try simp only[F9]at hm|refine D8 ?_|refine D6 ?_|refine N9 ?_|refine E5 ?_|refine P7 ?_|refine C9 ?_|refine D9 ?_|refine A7 ?_|refine D7 ?_|refine E8 ?_|refine A8 ?_|refine F5 ?_|refine G5 ?_|refine F7 ?_|(refine D5 (ht:=fun _=>?_) (hf:=fun _=>?_)<;>try first|contradiction|omega)|refine Z4 ?_|refine O5 ?_|refine J8 ?_|refine A2M ?_|refine A0b ?_)
    refine L9 (⟨k+1,I3,sc1++ [(⟨y.name,y.label,A74 false y.fr⟩,.pointer (some ⟨bt,ot,none⟩))],q,a73,cp73,zs3⟩:InX) (by exact⟨rfl,rfl,rfl,rfl,rfl,rfl,trivial⟩)
     ⟨?_,hle2.trans hleI3,by dsimp only;omega,by dsimp only;rw[hst,Y8];rfl,⟨rr++ [_],by dsimp only;rw[hrr,O3]⟩,by dsimp only;rw[E9];show _+1<=_;omega,by dsimp only;rw[Y8];exact hnx,fun q' hq'=>?_,hz3⟩ (by dsimp only;omega)
    ·dsimp only[A92]
     rw[X9,E9];exact(hm.perm pmIc).tl
    ·rcases A0d.1 hq' with h|h
     ·exact((hats q' h).le hleI2).le hleI3
     ·obtain rfl:=A0v.1 h
      exact .inr ⟨bt,ot,_,ec,y,ea,_,_,rfl,by rw[ho];exact hpt2,by rw[ho]⟩
  rw[if_neg k1]at hst;by_cases k2:y.kind=2
  ·rw[if_pos k2]at hst
   have hG:=C6p (bd:=bd) (bf:=bf) (sc:=sc1) (o:=p1.1) (more:=p1.2) (sa:=sa1) (sp:=sp1) (bo:=bo) (zs:=zs1) y.name I2 (by omega);repeat' (first|refine F6 (d:=83) ?_ hm (hp:=pm3_0) (hc:=hG);clear hm;rintro _ I3 _ w3 (⟨i,q,b2,hgi,hfl,hsa,rfl,rfl⟩|⟨hfl,bl,rfl,rfl⟩) hleI3 hm|refine A0H 15 ?_|refine J5 ?_ hm|refine D8 ?_|refine D6 ?_|refine N9 ?_|refine E5 ?_|refine C9 ?_|refine D9 ?_|refine A7 ?_|refine E8 ?_|refine A8 ?_|refine F5 ?_|(refine D5 (ht:=fun _=>?_) (hf:=fun _=>?_)<;>try first|contradiction|omega))
   ·subst hsa
    rw[B7S,hfl]at hst;dsimp only at hst;have hqm:=A0B hgi;have hA:=((hats q hqm).le hleI2).le hleI3;obtain⟨q1,q2,q3⟩:=B0E (o:=p1.1) hgi;have hR:=B5l (bd:=bd) (bf:=bf) (sc:=sc1) (o:=p1.1) (more:=p1.2) (sa:=some ⟨b2,0,none⟩) (sp:=sp1) (bo:=bo) (zs:=zs1) I3 q.2 q.1.op p1.1 av hav hA hz hokp;rw[show ((p1.1,p1.2):Sp.LP)=p1 from rfl]at hR;have hatn:=fun (J:P6) (m:Le I3 J) (q':Loc) (h:q'∈sc1)=>(((hats q' h).le hleI2).le hleI3).le m
    rcases hA with ⟨hv,hop⟩|⟨b9,o9,tc9,ec9,y9,ea9,v1,v2,hv,hp9,hop⟩
    ·rw[hop]at hR hst
     rw[show A4G p1 none av=p1 from rfl]at hR hst;rw[hv]at hR q3;refine⟨?_⟩
     repeat' (first|refine A0U (i:=1) (d:=88) hm (by rfl) (by rfl) (by rfl) gt1 (by exact q3) ?_|refine F6 (d:=90) ?_ hm (hp:=pm3_0) (hc:=hR);clear hm;rintro _ I4 _ _ ⟨rfl,zs4,hz4,rfl⟩ hleI4 hm;try simp only[F9]at hm|refine A0U (i:=1) (d:=94) hm (by rfl) (by rfl) (by rfl) gt1 (by exact q3) ?_|refine A5F (e:=111) (by kernel_rfl) (by rfl) (by rfl) (by rfl) (by rfl) ?_|refine D8 ?_|refine L8 ?_|refine E5 ?_|refine P7 ?_|refine C9 ?_|refine A0N ?_|refine D9 ?_|refine A7 ?_|refine D7 ?_|refine E8 ?_|refine A8 ?_|refine G5 ?_|refine F7 ?_)
     exact L9 (⟨k+1,I4,sc1,p1,some ⟨b2,0,none⟩,sp1,zs4⟩:InX) (by exact⟨rfl,rfl,rfl,rfl,rfl,rfl,trivial⟩)
      ⟨hm,(hle2.trans hleI3).trans hleI4,by dsimp only;omega,hst,⟨rr,hrr⟩,by dsimp only;omega,hap.rest,hatn I4 hleI4,hz4⟩ (by dsimp only;omega)
    ·rw[hv]at hR q3
     cases ho9:y9.opn with
     |false=>
      rw[ho9]at hop hp9;rw[hop]at hR hst;rw[show A4G p1 (A74 false y9.fr) av=p1 from rfl]at hR hst;refine⟨?_⟩
      repeat' (first|refine A0U (i:=1) (d:=88) hm (by rfl) (by rfl) (by rfl) gt1 (by exact q3) ?_|refine F6 (d:=90) ?_ hm (hp:=pm3_0) (hc:=hR);clear hm;rintro _ I4 _ _ ⟨rfl,zs4,hz4,rfl⟩ hleI4 hm;try simp only[F9]at hm;replace hp9:=hp9.le hleI4|refine A0U (i:=1) (d:=94) hm (by rfl) (by rfl) (by rfl) gt1 (by exact q3) ?_|refine A0U (i:=1) (d:=100) hm (by rfl) (by rfl) (by rfl) gt1 (by exact q3) ?_|refine A5F (e:=111) (by kernel_rfl) (by rfl) (by rfl) (by rfl) (by rfl) ?_|refine J5 ?_ hm|refine D8 ?_|refine O9 ?_|refine E5 ?_|refine P7 ?_|refine C9 ?_|refine D9 ?_|refine A7 ?_|refine D7 ?_|refine E8 ?_|refine A8 ?_|refine G5 ?_|refine F7 ?_)
      exact L9 (⟨k+1,I4,sc1,p1,some ⟨b2,0,none⟩,sp1,zs4⟩:InX) (by exact⟨rfl,rfl,rfl,rfl,rfl,rfl,trivial⟩)
       ⟨hm,(hle2.trans hleI3).trans hleI4,by dsimp only;omega,hst,⟨rr,hrr⟩,by dsimp only;omega,hap.rest,hatn I4 hleI4,hz4⟩ (by dsimp only;omega)
     |true=>
      rw[ho9]at hop hp9;rw[hop]at hR hst;rw[show A4G p1 (A74 true y9.fr) av=A3W p1 y9.fr av from rfl]at hR hst;have hset:(sc1.flatMap (A4a p1.1)).set (i *3+1) (nt ((A3W p1 y9.fr av).1 y9.fr))=sc1.flatMap (A4a (A3W p1 y9.fr av).1):=by
       rw[B3B];have e:Sp.upL p1.1 y9.fr (p1.1 y9.fr|||av) y9.fr=p1.1 y9.fr|||av:=by
        show (if y9.fr=y9.fr then _ else _)=_
        rw[if_pos rfl]
       rw[e];exact B94 hgi hop (A5w.1 hap.rest).1
      have hil:i *3+1<(sc1.flatMap (A4a p1.1)).length:=by
       rw[B5f];have:=(A0t.1 hgi).1;omega
      generalize A3W p1 y9.fr av=q9 at hR hst hset;refine⟨?_⟩
      repeat' (first|refine A0U (i:=1) (d:=88) hm (by rfl) (by rfl) (by rfl) gt1 (by exact q3) ?_|refine F6 (d:=90) ?_ hm (hp:=pm3_0) (hc:=hR);clear hm;rintro _ I4 _ _ ⟨rfl,zs4,hz4,rfl⟩ hleI4 hm;try simp only[F9]at hm;replace hp9:=hp9.le hleI4|refine A0U (i:=1) (d:=94) hm (by rfl) (by rfl) (by rfl) gt1 (by exact q3) ?_|refine A0U (i:=1) (d:=100) hm (by rfl) (by rfl) (by rfl) gt1 (by exact q3) ?_|refine A5F (e:=111) (by kernel_rfl) (by rfl) (by rfl) (by rfl) (by rfl) ?_|refine V7 (id:=17) 13 (h:=?_)|refine B9a (i:=1) (d:=113) hm (by rfl) (by rfl) (by rfl) gt1 (by exact q3) ?_|refine A73 (d:=117) hm (by rfl) (by rfl) (by rfl) (by rfl) gt2 A66 ?_;rw[hz4.get y9.fr]|refine A5P (i:=1) hm (by rfl) (by rfl) (by rfl) (by rfl) gt1 (by rfl) (by rfl) hil ?_;clear hm;intro _ hm;try simp only[F9]at hm;rw[hset]at hm|refine J5 ?_ hm|refine V3 ?_ hm|refine A0q ?_ hm|refine D8 ?_|refine O9 ?_|refine E5 ?_|refine P7 ?_|refine C9 ?_|refine D9 ?_|refine A7 ?_|refine D7 ?_|refine E8 ?_|refine A8 ?_|refine A0e ?_;intro _ hkq;replace hm:=hm.kept0 hkq;clear hkq|refine H6 ?_|refine X5 ?_|refine O8 ?_|refine L6 ?_)
      exact L9 (⟨k+1,I4,sc1,q9,some ⟨b2,0,none⟩,sp1,zs4⟩:InX) (by exact⟨rfl,rfl,rfl,rfl,rfl,rfl,trivial⟩)
       ⟨hm,(hle2.trans hleI3).trans hleI4,by dsimp only;omega,hst,⟨rr,hrr⟩,by dsimp only;omega,hap.rest,hatn I4 hleI4,hz4⟩ (by dsimp only;omega)
   ·rw[B7S,hfl]at hst
    dsimp only at hst;have hR:=B5l (bd:=bd) (bf:=bf) (sc:=sc1) (o:=p1.1) (more:=p1.2) (sa:=sa1) (sp:=sp1) (bo:=bo) (zs:=zs1) I3 (.pointer none) none p1.1 av hav (.inl ⟨rfl,rfl⟩) hz hokp;rw[show ((p1.1,p1.2):Sp.LP)=p1 from rfl,show A4G p1 none av=p1 from rfl]at hR;refine⟨?_⟩
    repeat' (first|refine F6 (d:=90) ?_ hm (hp:=pm3_1) (hc:=hR);clear hm;rintro _ I4 _ _ ⟨rfl,zs4,hz4,rfl⟩ hleI4 hm;try simp only[F9]at hm|refine A5F (e:=111) (by kernel_rfl) (by rfl) (by rfl) (by rfl) (by rfl) ?_|refine J4 ?_ hm|refine D8 ?_|refine L8 ?_|refine E5 ?_|refine P7 ?_|refine C9 ?_|refine A0N ?_|refine D9 ?_|refine A7 ?_|refine D7 ?_|refine E8 ?_|refine A8 ?_|refine G5 ?_|refine F7 ?_)
    exact L9 (⟨k+1,I4,sc1,p1,sa1,sp1,zs4⟩:InX) (by exact⟨rfl,rfl,rfl,rfl,rfl,rfl,trivial⟩)
     ⟨hm.left (H:= [_,_,_]),(hle2.trans hleI3).trans hleI4,by dsimp only;omega,hst,⟨rr,hrr⟩,by dsimp only;omega,hap.rest,fun q' h=>(((hats q' h).le hleI2).le hleI3).le hleI4,hz4⟩ (by dsimp only;omega)
  rw[if_neg k2]at hst;by_cases k34:y.kind=3\/y.kind=4
  ·rw[if_pos k34]at hst
   have hT:=ih y.thn (by omega) s2 s3 n3 I2 a1' c1 xs1 sc1 av p1 sa1 sp1 zs1 hav hokp hoks (by omega) hap.thn (fun q' h=>(hats q' h).le hleI2) hz (hfe1.le hleI2) (hpf1.le hleI2) ((hr4.le hle1).le hleI2) (X6.le hleI2 _ _ (X6.le hle1 _ _ hx4));have hokT:=A6O hlab y.thn n3 hokp hoks hav;generalize (A2b its y.thn (sc1.map (·.1)) av p1).2=q3 at hT hokT hst;have hE2:=fun (J:P6) (m:Le I2 J) (sa:Option Addr) (sp:Nat) (zs:A1N) (hzz:OpenZ zs q3.1)=>ih y.els (by omega) s4 s5 n4 J a2' c2 xs2 sc1 av q3 sa sp zs hav hokT.1 hoks (by omega) hap.els (fun q' h=>((hats q' h).le hleI2).le m) hzz ((hfe1.le hleI2).le m) ((hpf1.le hleI2).le m) (((hr5.le hle1).le hleI2).le m) (X6.le m _ _ (X6.le hleI2 _ _ (X6.le hle1 _ _ hx5)))
   generalize (A2b its y.els (sc1.map (·.1)) av q3).2=q4 at hE2 hst;repeat' (first|refine F6 (d:=129) ?_ hm (hp:=pm3_0) (hc:=hT);clear hm;rintro _ I3 _ _ ⟨rfl,sa3,sp3,zs3,hz3,rfl⟩ hleI3 hm;try simp only[F9]at hm;replace hpt2:=hpt2.le hleI3|refine F6 (d:=136) ?_ hm (hp:=pm3_0) (hc:=hE2 I3 hleI3 sa3 sp3 zs3 hz3);clear hm;rintro _ I4 _ _ ⟨rfl,sa4,sp4,zs4,hz4,rfl⟩ hleI4 hm;try simp only[F9]at hm|refine J5 ?_ hm|refine D8 ?_|refine D6 ?_|refine N9 ?_|refine E5 ?_|refine P7 ?_|refine C9 ?_|refine D9 ?_|refine A7 ?_|refine D7 ?_|refine E8 ?_|refine A8 ?_|refine F5 ?_|refine G5 ?_|(refine D5 (ht:=fun _=>?_) (hf:=fun _=>?_)<;>try first|contradiction|omega))
   all_goals exact L9 (⟨k+1,I4,sc1,q4,sa4,sp4,zs4⟩:InX) (by exact⟨rfl,rfl,rfl,rfl,rfl,rfl,trivial⟩) ⟨hm,(hle2.trans hleI3).trans hleI4,by dsimp only;omega,hst,⟨rr,hrr⟩,by dsimp only;omega,hap.rest,fun q' h=>(((hats q' h).le hleI2).le hleI3).le hleI4,hz4⟩ (by dsimp only;omega)
  ·rw[if_neg k34]at hst
   repeat' (first|refine J5 ?_ hm|refine D8 ?_|refine D6 ?_|refine N9 ?_|refine E5 ?_|refine P7 ?_|refine C9 ?_|refine D9 ?_|refine A7 ?_|refine D7 ?_|refine E8 ?_|refine A8 ?_|refine F5 ?_|refine G5 ?_|(refine D5 (ht:=fun _=>?_) (hf:=fun _=>?_)<;>try first|contradiction|omega))
   exact L9 (⟨k+1,I2,sc1,p1,sa1,sp1,zs1⟩:InX) (by exact⟨rfl,rfl,rfl,rfl,rfl,rfl,trivial⟩)
    ⟨hm,hle2,by dsimp only;omega,hst,⟨rr,hrr⟩,by dsimp only;omega,hap.rest,fun q' h=>(hats q' h).le hleI2,hz⟩ (by dsimp only;omega)
 ·obtain rfl:k=l.length:=by omega
  rw[V5]at hinv;rw[hinv];have hpl:sc.length<=sc1.length:=by rw[hrr,E9];omega
  have htk:(sc1.flatMap (A4a p1.1)).take (sc.length *3)=sc.flatMap (A4a p1.1):=by
   rw[hrr,X9, <-B5f p1.1 sc,List.take_left]
  repeat' (first|refine A9u (d:=144) ?_ hm (hmn:=hpl);clear hm;intro hm;try simp only[F9]at hm|refine J4 ?_ hm|refine O6 hm (k:=?_);clear hm;intro _ hm;try simp only[F9]at hm|refine D8 ?_|refine J6 ?_|refine E5 ?_|refine C9 ?_|refine D9 ?_|refine A7 ?_|refine H9 ?_|refine H5 ?_|refine E8 ?_|refine A8 ?_|refine P9 ?_|refine X0 ?_|(refine D5 (ht:=fun _=>?_) (hf:=fun _=>?_)<;>try first|contradiction|omega))
  rw[htk]at hm;exact⟨I1,_,⟨rfl,sa1,sp1,zs1,hz,rfl⟩,hm⟩
end
mutual
def StO (I:P6):Sp.Stm->List Value->List HItem->Prop
 | .mk k nm a lb o e thn els f t,cs,H=> ∃ea ec ex a1 c1 a2 c2 xs1 xs2 H1 H2,cs=A2K k nm a lb o e ea ec (.slice a1 thn.length c1) (.slice a2 els.length c2) f t/\
  RowI I 109 6 (.slice ea e.args.length ec) e.args.length ex/\Y7 I e.args ex/\
  H=(.row (.slice a1 thn.length c1) 111 15 thn.length xs1::H1)++(.row (.slice a2 els.length c2) 111 15 els.length xs2::H2)/\A1r I thn xs1 H1/\A1r I els xs2 H2
def A1r (I:P6):List Sp.Stm->List Value->List HItem->Prop
 | [],xs,H=>xs= []/\H= []
 |s::l,xs,H=> ∃c r H1 H2,xs=c++r/\H=H1++H2/\StO I s c H1/\A1r I l r H2
 end
def A8G (I:P6) (l:List Sp.Stm) (a:Option Addr) (c:Nat) (H:List HItem):Prop:= ∃xs Hs,H=.row (.slice a l.length c) 111 15 l.length xs::Hs/\A1r I l xs Hs
mutual
theorem StO.le {I J:P6} (m:Le I J):∀(s:Sp.Stm) (cs:List Value) (H:List HItem),StO I s cs H->StO J s cs H
 | .mk k nm a lb o e thn els f t,cs,H,h=>by
  rw[StO]at h |-;obtain⟨ea,ec,ex,a1,c1,a2,c2,xs1,xs2,H1,H2,h1,h2,h3,h4,h5,h6⟩:=h;exact⟨ea,ec,ex,a1,c1,a2,c2,xs1,xs2,H1,H2,h1,h2.le m,Y7.le m _ _ h3,h4,A1r.le m _ _ _ h5,A1r.le m _ _ _ h6⟩
theorem A1r.le {I J:P6} (m:Le I J):∀(l:List Sp.Stm) (xs:List Value) (H:List HItem),A1r I l xs H->A1r J l xs H
 | [],xs,H,h=>by rw[A1r]at h |-;exact h
 |s::l,xs,H,h=>by
  rw[A1r]at h |-;obtain⟨c,r,H1,H2,h1,h2,h3,h4⟩:=h;exact⟨c,r,H1,H2,h1,h2,StO.le m _ _ _ h3,A1r.le m _ _ _ h4⟩
 end
theorem A8G.le {I J:P6} (m:Le I J) {l:List Sp.Stm}{a:Option Addr}{c:Nat}{H:List HItem} (h:A8G I l a c H):A8G J l a c H:=by
 obtain⟨xs,Hs,h1,h2⟩:=h;exact⟨xs,Hs,h1,A1r.le m _ _ _ h2⟩
theorem StO.out {I:P6}{s:Sp.Stm}{cs:List Value}{H:List HItem} (h:StO I s cs H):∃ea ec ex a1 c1 a2 c2 H1 H2,cs=A2K s.kind s.name s.at_ s.label s.opn s.e ea ec (.slice a1 s.thn.length c1) (.slice a2 s.els.length c2) s.fr s.to/\
  RowI I 109 6 (.slice ea s.e.args.length ec) s.e.args.length ex/\Y7 I s.e.args ex/\H=H1++H2/\A8G I s.thn a1 c1 H1/\A8G I s.els a2 c2 H2:=by
 cases s with
 |mk k nm a lb o e thn els f t=>
  rw[StO]at h;obtain⟨ea,ec,ex,a1,c1,a2,c2,xs1,xs2,H1,H2,h1,h2,h3,h4,h5,h6⟩:=h;exact⟨ea,ec,ex,a1,c1,a2,c2,_,_,h1,h2,h3,h4,⟨xs1,H1,rfl,h5⟩,⟨xs2,H2,rfl,h6⟩⟩
theorem StO.of {I:P6}{k a lb f t ec c1 c2:Nat}{nm:List UInt8}{o:Bool}{e:Sp.Ex}{thn els:List Sp.Stm}{ea a1 a2:Option Addr}{ex:List Value}{H1 H2:List HItem}
  (h2:RowI I 109 6 (.slice ea e.args.length ec) e.args.length ex) (h3:Y7 I e.args ex) (h5:A8G I thn a1 c1 H1) (h6:A8G I els a2 c2 H2):
  StO I (.mk k nm a lb o e thn els f t) (A2K k nm a lb o e ea ec (.slice a1 thn.length c1) (.slice a2 els.length c2) f t) (H1++H2):=by
 obtain⟨xs1,G1,e1,g1⟩:=h5;obtain⟨xs2,G2,e2,g2⟩:=h6;rw[StO];exact⟨ea,ec,ex,a1,c1,a2,c2,xs1,xs2,G1,G2,rfl,h2,h3,by rw[e1,e2],g1,g2⟩
theorem C1W {I:P6}{s:Sp.Stm}{ea a1 a2:Option Addr}{ec c1 c2:Nat}{ex:List Value}{H1 H2:List HItem}
  (h2:RowI I 109 6 (.slice ea s.e.args.length ec) s.e.args.length ex) (h3:Y7 I s.e.args ex) (h5:A8G I s.thn a1 c1 H1) (h6:A8G I s.els a2 c2 H2):
  StO I s (A2K s.kind s.name s.at_ s.label s.opn s.e ea ec (.slice a1 s.thn.length c1) (.slice a2 s.els.length c2) s.fr s.to) (H1++H2):=by
 cases s with
 |mk k n a l o e t x f u=>exact .of h2 h3 h5 h6
theorem StO.len {I:P6}{s:Sp.Stm}{cs:List Value}{H:List HItem} (h:StO I s cs H):cs.length=15:=by
 obtain⟨_,_,_,_,_,_,_,_,_,rfl,_⟩:=h.out;rfl
theorem A1r.len {I:P6}:∀ {l:List Sp.Stm}{xs:List Value}{H:List HItem},A1r I l xs H->xs.length=l.length *15
 | [],xs,H,h=>by rw[A1r]at h;simp[h.1]
 |s::l,xs,H,h=>by
  rw[A1r]at h;obtain⟨c,r,H1,H2,rfl,_,h3,h4⟩:=h;rw[E9,h3.len,h4.len,F8,A1Q];omega
theorem A1r.nil {I:P6}:A1r I [] [] []:=by rw[A1r];exact⟨rfl,rfl⟩
theorem A1r.app {I:P6}:∀ {l m:List Sp.Stm}{xs ys:List Value}{G H:List HItem},A1r I l xs G->A1r I m ys H->A1r I (l++m) (xs++ys) (G++H)
 | [],m,xs,ys,G,H,h,k=>by
  rw[A1r]at h;obtain⟨rfl,rfl⟩:=h;exact k
 |s::l,m,xs,ys,G,H,h,k=>by
  rw[A1r]at h;obtain⟨c,r,H1,H2,rfl,rfl,h3,h4⟩:=h;rw[Y0,A1r];exact⟨c,r++ys,H1,H2++H,by rw[O3],by rw[O3],h3,h4.app k⟩
theorem A1r.one {I:P6}{s:Sp.Stm}{c:List Value}{H:List HItem} (h:StO I s c H):A1r I [s] c H:=by
 rw[A1r];exact⟨c,[],H,[],by simp,by simp,h,.nil⟩
theorem A1r.part {I:P6}:∀ {l m:List Sp.Stm}{xs:List Value}{H:List HItem},A1r I (l++m) xs H->∃x1 x2 H1 H2,xs=x1++x2/\H=H1++H2/\A1r I l x1 H1/\A1r I m x2 H2
 | [],m,xs,H,h=>⟨[],xs,[],H,rfl,rfl,.nil,h⟩
 |s::l,m,xs,H,h=>by
  rw[Y0,A1r]at h;obtain⟨c,r,H1,H2,rfl,rfl,h3,h4⟩:=h;obtain⟨x1,x2,G1,G2,rfl,rfl,g3,g4⟩:=h4.part;refine⟨c++x1,x2,H1++G1,G2,by rw[O3],by rw[O3],?_,g4⟩
  rw[A1r];exact⟨c,x1,H1,G1,rfl,rfl,h3,g3⟩
theorem A1r.uncons {I:P6}{s:Sp.Stm}{l:List Sp.Stm}{xs:List Value}{H:List HItem} (h:A1r I (s::l) xs H):∃c r H1 H2,xs=c++r/\H=H1++H2/\StO I s c H1/\A1r I l r H2:=by
 rw[A1r]at h;exact h
mutual
theorem StO.freeze {E:Ent}{w:World}:∀(s:Sp.Stm) {I:P6}{cs:List Value}{H R:List HItem},StO I s cs H->Mem E I (H++R) w->∃J,Le I J/\Mem E J R w/\A5j J s cs
 | .mk k nm a lb o e thn els f t,I,cs,H,R,h,hm=>by
  rw[StO]at h;obtain⟨ea,ec,ex,a1,c1,a2,c2,xs1,xs2,H1,H2,rfl,h2,h3,rfl,h5,h6⟩:=h;rw[O3,Y0,Y0]at hm;obtain⟨I1,l1,m1,r1⟩:=hm.freeze;obtain⟨I2,l2,m2,r2⟩:=A1r.freeze thn (A1r.le l1 _ _ _ h5) m1;obtain⟨I3,l3,m3,r3⟩:=m2.freeze;obtain⟨I4,l4,m4,r4⟩:=A1r.freeze els (A1r.le ((l1.trans l2).trans l3) _ _ _ h6) m3;have h14:=(l2.trans l3).trans l4;exact⟨I4,l1.trans h14,m4,.of (h2.le (l1.trans h14)) (Y7.le (l1.trans h14) _ _ h3) (r1.le h14) (X6.le (l3.trans l4) _ _ r2) (r3.le l4) r4⟩
theorem A1r.freeze {E:Ent}{w:World}:∀(l:List Sp.Stm) {I:P6}{xs:List Value}{H R:List HItem},A1r I l xs H->Mem E I (H++R) w->∃J,Le I J/\Mem E J R w/\X6 J l xs
 | [],I,xs,H,R,h,hm=>by
  rw[A1r]at h;obtain⟨rfl,rfl⟩:=h;exact⟨I,Le.refl I,hm,.nil⟩
 |s::l,I,xs,H,R,h,hm=>by
  rw[A1r]at h;obtain⟨c,r,H1,H2,rfl,rfl,h3,h4⟩:=h;rw[O3]at hm;obtain⟨I1,l1,m1,r1⟩:=StO.freeze s h3 hm;obtain⟨I2,l2,m2,r2⟩:=A1r.freeze l (A1r.le l1 _ _ _ h4) m1;refine⟨I2,l1.trans l2,m2,?_⟩
  rw[X6];exact⟨c,r,rfl,A5j.le l2 _ _ r1,r2⟩
 end
theorem A8G.freeze {E:Ent}{w:World}{l:List Sp.Stm}{I:P6}{a:Option Addr}{c:Nat}{H R:List HItem} (h:A8G I l a c H) (hm:Mem E I (H++R) w):
  ∃J xs,Le I J/\Mem E J R w/\RowI J 111 15 (.slice a l.length c) l.length xs/\X6 J l xs:=by
 obtain⟨xs,Hs,rfl,hc⟩:=h;obtain⟨I1,l1,m1,r1⟩:=Mem.freeze (H:=Hs++R) hm;obtain⟨I2,l2,m2,r2⟩:=A1r.freeze l (A1r.le l1 _ _ _ hc) m1;exact⟨I2,xs,l1.trans l2,m2,r1.le l2,r2⟩
structure OwX where
 k:Nat
 I:P6
 a:Option Addr
 cp:Nat
 xs:List Value
 Hs:List HItem
abbrev C74 (l:List Sp.Stm):Value->P6->List HItem->Prop:=fun v I' H'=> ∃a c,v=.slice a l.length c/\A8G I' l a c H'
theorem B9d:∀(n:Nat) (l:List Sp.Stm),SizeOf.sizeOf l<=n->l.length<=64->A0i l->∀(I:P6) (a:Option Addr) (c:Nat) (xs:List Value),RowI I 111 15 (.slice a l.length c) l.length xs->X6 I l xs->
  CalM prog 77 #[.slice a l.length c] I [] (C74 l):=by
 intro n;induction n with
 |zero=>intro l h;cases l<;>simp at h
 |succ n ih=>
 intro l hsz hll hsm I a c xs hr hx;refine CalM.of fun w E hm=>enter (N:=30) func77 rfl [(0,.slice a l.length c)] A0I rfl ?_
 repeat' (first|refine D8 ?_|refine D6 ?_|refine G7 ?_|refine D9 ?_|refine A7 ?_|refine E8 ?_|refine A8 ?_|refine F5 ?_)
 have hm:=hm.nil 111 15;refine U2 (fun x:OwX=> [(3,.slice x.a x.k x.cp),(6,.slice a l.length c),(7,nt l.length),(8,nt x.k)])
  (fun x w'=>Mem E x.I (B70 x.k x.a x.cp x.xs::x.Hs) w'/\Le I x.I/\A1r x.I (l.take x.k) x.xs x.Hs/\x.k<=l.length)
  (fun x=>l.length-x.k) ⟨0,I,none,0,[],[]⟩ (by exact⟨rfl,rfl,rfl,rfl,trivial⟩) ⟨hm,Le.refl _,.nil,H7 _⟩ ?_
 clear hm;rintro⟨k,I1,a1,cp1,xs1,Hs1⟩ w2 ⟨hm,hle1,hxs,hk⟩;dsimp only at hm hle1 hxs hk |-;by_cases hlt:k<l.length
 ·have hg:l[k]?=some l[k]:=G6 hlt
  have hme:=A3w (O7 hlt);obtain⟨ea2,ec2,ex2,a2,c2,xs2,a3,c3,xs3,hc2,hr2,hx2,hr3,hx3,hr4,hx4⟩:=(hx.get hg).out;have hsm2:=A1D hsm hg;generalize l[k]=y at hg hc2 hr2 hx2 hr3 hx3 hr4 hx4 hsm2 hme;obtain⟨s1,s2,s3,s4,s5⟩:=A1S hsm2;obtain⟨z1,z2⟩:=A5T (s:=y);have hce:=fun (I':P6) (m:Le I I')=>B4I (SizeOf.sizeOf y.e) y.e (G9 _) s1 I' ea2 ec2 ex2 (hr2.le m) (Y7.le m _ _ hx2)
  have hct:=fun (I':P6) (m:Le I I')=>ih y.thn (by omega) s2 s3 I' a2 c2 xs2 (hr3.le m) (X6.le m _ _ hx3)
  have hcl:=fun (I':P6) (m:Le I I')=>ih y.els (by omega) s4 s5 I' a3 c3 xs3 (hr4.le m) (X6.le m _ _ hx4)
  have htk:l.take (k+1)=l.take k++ [y]:=by rw[A3f,hg];rfl
  have hri:=hr.le hle1;repeat' (first|refine A8s (id:=5) (hm.perm pm0) [([0,1,3,4,6,7],[2]),([9],[5]),([],[8])] 10 (h:=?_);clear hm;intro wd hR hm|refine O0 ?_ (hr:=hri);intro bt ot hpt;rw[show ((k:Int).toNat *15)=k *15 from rfl,hc2]at hpt|refine U7 (d:=14) ?_ hm (hc:=hce _ hle1);clear hm;rintro _ I2 _ _ ⟨rfl,ea3,ec3,ex3,rfl,hr5,hx5⟩ hle hm;have hleI2:=hle;try simp only[F9]at hm|refine U7 (d:=17) ?_ hm (hc:=hct _ (hle1.trans hleI2));clear hm;rintro _ I3 _ _ ⟨a4,c4,rfl,ho4⟩ hle hm;have hleI3:=hle;try simp only[F9]at hm|refine U7 (d:=20) ?_ hm (hc:=hcl _ ((hle1.trans hleI2).trans hleI3));clear hm;rintro _ I4 _ _ ⟨a5,c5,rfl,ho5⟩ hle hm;have hleI4:=hle;try simp only[F9]at hm|refine B6d ?_;replace hm:=(hR.back hm).perm pmO;clear hR|refine Y3 ?_ hR|refine A4o ?_ hR|refine B2F ?_|refine B2E ?_|refine A0w ?_|refine C4R ?_|refine Y5 (d:=5) ?_ hm;clear hm;intro b5 _ hm|refine A2l (d:=27) ?_ hm;clear hm;intro a27 cp27 _ _ hm;try simp only[F9]at hm|refine Y1 ?_ hm|refine X3 ?_ hm|refine O6 hm (k:=?_);clear hm;intro _ hm;try simp only[F9]at hm|refine A3m ?_ hm;clear hm;intro _ hm;try simp only[F9]at hm|refine D8 ?_|refine D6 ?_|refine J6 ?_|refine P7 ?_|refine C9 ?_|refine D9 ?_|refine A7 ?_|refine D7 ?_|refine E8 ?_|refine A8 ?_|refine F5 ?_|refine G5 ?_|(refine D5 (ht:=fun _=>?_) (hf:=fun _=>?_)<;>try first|contradiction|omega)|refine J8 ?_)
  refine L9 (⟨k+1,I4,_,_,_,_⟩:OwX) (by exact⟨rfl,rfl,rfl,rfl,trivial⟩) ⟨hm.tl,((hle1.trans hleI2).trans hleI3).trans hleI4,?_,by dsimp only;omega⟩ (by dsimp only;omega)
  dsimp only
  rw[htk];exact(A1r.le ((hleI2.trans hleI3).trans hleI4) _ _ _ hxs).app (.one (C1W (hr5.le (hleI3.trans hleI4)) (Y7.le (hleI3.trans hleI4) _ _ hx5) (ho4.le hleI4) ho5))
 ·obtain rfl:k=l.length:=by omega
  rw[V5]at hxs;repeat' (first|refine D8 ?_|refine D6 ?_|refine J6 ?_|refine D9 ?_|refine A7 ?_|refine H9 ?_|refine H5 ?_|refine E8 ?_|refine A8 ?_|refine P9 ?_|refine H8 ?_|refine J9 ?_|(refine D5 (ht:=fun _=>?_) (hf:=fun _=>?_)<;>try first|contradiction|omega))
  exact⟨I1,_,⟨a1,cp1,rfl,xs1,Hs1,rfl,hxs⟩,hm⟩
abbrev C6D (ty:TypeId) (sz n:Nat) (us:List Value):Value->P6->List HItem->Prop:=fun v _ H'=> ∃a cp,v=.slice a n cp/\H'= [.row (.slice a n cp) ty sz n us]
theorem C3D (I:P6) (a:Option Addr) (n cp:Nat) (us:List Value) (hr:RowI I 103 3 (.slice a n cp) n us) (h1:us.all (·.oneCell')=true) (hn:n<=1099511627776):
  CalM prog 43 #[.slice a n cp] I [] (C6D 103 3 n us):=by
 refine CalM.of fun w E hm=>enter (N:=8) func43 rfl [(0,.slice a n cp)] A0I rfl ?_
 cases a with
 |none=>
  have h0:n=0:=hr.none;subst h0;have hu:us= []:=A00 (by have:=hr.len;simpa using this);subst hu;repeat' (first|refine A1R ?_|refine D8 ?_|refine D6 ?_|refine D9 ?_|refine A7 ?_|refine G8 ?_|refine E8 ?_|refine A8 ?_|refine H8 ?_|refine J9 ?_|refine H6 ?_)
  exact⟨I,_,⟨none,0,rfl,rfl⟩,hm.nil 103 3⟩
 |some ad=>
  repeat' (first|refine A1R ?_|refine A2R ?_ hm;clear hm;intro bb _ hm|refine A9t ?_ hm (hr:=hr) (h1:=h1);clear hm;intro a2 cp2 _ hm;try simp only[F9]at hm|refine D8 ?_|refine D6 ?_|refine D9 ?_|refine A7 ?_|refine E8 ?_|refine A8 ?_|refine G5 ?_|refine H8 ?_|refine J9 ?_|refine F7 ?_)
  simp only[V6]at hm |-;exact⟨I,_,⟨a2,cp2,rfl,rfl⟩,(hm.front 0 rfl).hd⟩
abbrev C8J (it:Sp.Itm):Value->P6->List HItem->Prop:=fun v J H'=> ∃ap cp as_ cs ab cb ad cd Hb,v=.agg (A1z it.kind it.name it.label (.slice ap it.params.length cp) (.slice as_ it.sends.length cs) (.slice ab it.body.length cb) it.at_ it.size it.mark (.slice ad it.diags.length cd)).toArray/\
 H'=.row (.slice ap it.params.length cp) 103 3 it.params.length (it.params.flatMap A2N)::Hb/\A8G J it.body ab cb Hb/\
 RowI J 106 2 (.slice as_ it.sends.length cs) it.sends.length (it.sends.flatMap A2V)/\RowI J 85 4 (.slice ad it.diags.length cd) it.diags.length (it.diags.flatMap A5G)
theorem C8r (it:Sp.Itm) (hs:it.small) (I:P6) (cs:List Value) (hi:A5W I it cs):CalM prog 48 #[.agg cs.toArray] I [] (C8J it):=by
 obtain⟨ap,cp,as_,cs',ab,cb,ad,cd,xb,rfl,r1,r2,r3,r4,r5⟩:=hi;have k1:=hs.params;have k2:=hs.sends;have k3:=hs.diags;have k4:=hs.body;refine CalM.of fun w E hm=>enter (N:=20) func48 rfl [(0,.agg (A1z it.kind it.name it.label (.slice ap it.params.length cp) (.slice as_ it.sends.length cs') (.slice ab it.body.length cb) it.at_ it.size it.mark (.slice ad it.diags.length cd)).toArray)] A0I rfl ?_
 have c1:=fun (I':P6) (m:Le I I')=>C3D I' ap it.params.length cp _ (r1.le m) (B7I _) (by omega)
 have c2:=fun (I':P6) (m:Le I I')=>B7E I' as_ it.sends.length cs' _ (r2.le m) (C0t _) (by omega)
 have c3:=fun (I':P6) (m:Le I I')=>B7D I' ad it.diags.length cd _ (r5.le m) (B92 _) (by omega)
 have c4:=fun (I':P6) (m:Le I I')=>B9d (SizeOf.sizeOf it.body) it.body (G9 _) (by omega) hs.stms I' ab cb xb (r3.le m) (X6.le m _ _ r4)
 repeat' (first|refine A8s (id:=1) (hm.perm pm0) [([0,1,3,4,6,7],[2]),([9],[5]),([],[8])] 10 (h:=?_);clear hm;intro wd hR hm|refine U7 (d:=5) ?_ hm (hc:=c1 _ (Le.refl _));clear hm;rintro _ I2 _ _ ⟨a1,d1,rfl,rfl⟩ hle hm;have hleI2:=hle;try simp only[F9]at hm|refine U7 (d:=8) ?_ hm (hc:=c2 _ hleI2);clear hm;rintro _ I3 _ _ ⟨rfl,a2,d2,rfl,s2⟩ hle hm;have hleI3:=hle;try simp only[F9]at hm|refine U7 (d:=11) ?_ hm (hc:=c3 _ (hleI2.trans hleI3));clear hm;rintro _ I4 _ _ ⟨rfl,a3,d3,rfl,s3⟩ hle hm;have hleI4:=hle;try simp only[F9]at hm|refine F6 (d:=17) ?_ hm (hp:=pm0) (hc:=c4 _ ((hleI2.trans hleI3).trans hleI4));clear hm;rintro _ I5 Hb _ ⟨a4,d4,rfl,ho4⟩ hleI5 hm;replace hm:=hm.perm A0P;try simp only[F9]at hm|refine Y3 ?_ hR|refine B2F ?_|refine B2E ?_|refine A0w ?_|refine C4R ?_|refine B6d ?_;replace hm:=hR.back hm;clear hR;try simp only[F9]at hm|refine A0K (d:=1) ?_ hm;clear hm;intro b1 _ hm|refine U1 (d:=2) ?_ hm;clear hm;intro b2 _ hm|refine J4 ?_ hm|refine Y1 ?_ hm|refine N7 ?_ hm;clear hm;intro _ hm;try simp only[F9]at hm|refine O6 hm (k:=?_);clear hm;intro _ hm;try simp only[F9]at hm|refine Y4 ?_ hm|refine C9 ?_|refine D9 ?_|refine A7 ?_|refine E8 ?_|refine A8 ?_|refine H8 ?_|refine J8 ?_)
 refine⟨I5,_,⟨a1,d1,a2,d2,a4,d4,a3,d3,Hb,rfl,rfl,ho4,(s2.le hleI4).le hleI5,s3.le hleI5⟩,hm.snd.snd⟩
end Go.Proofs
